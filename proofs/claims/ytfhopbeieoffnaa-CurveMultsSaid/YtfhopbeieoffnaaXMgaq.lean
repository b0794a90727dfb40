/- Texts put together: FdD FdF FdE FdG FdH FdI. Own work. -/
import Derived.Test.YtfhopbeieoffnaaXMgap
/- Contracts of the document's field: digits to the base 256 and to the base 65536. Own work. -/
namespace Go.Proofs.Ytfhopbeieoffnaa
open Go.Ev Go.Sp Go.RowKit
set_option maxRecDepth 100000
def prTd : List Nat := [0, 2, 3, 4]
def prInv (x : Nat) (l : List Int) (i : Int) : St := ⟨slotsOf 36 [(0, sc (.sl 0 0 (dg x).length)), (2, sc (.ptr 1 0)), (3, sc (.ptr 2 0)), (4, sc (.i64 i))], [(0, ⟨false, [.vd x]⟩), (1, ⟨true, [.vi 16 z16]⟩), (2, ⟨true, [.vi 16 l]⟩)], 16⟩
theorem prEven (x : Nat) (l : List Int) (i : Int) : roundS Try.prog (lookG []) (orcA [(3, [(3, true)]), (5, [(2, true)])]) [] 10 prTd (bodyAt Try.prog 73 3) (prInv x l i) =
    some (Ex.normal, St.mk (slotsOf 36 [(0, sc (IV.sl 0 0 (dg x).length)), (2, sc (IV.ptr 1 0)), (3, sc (IV.ptr 2 0)), (4, sc (IV.i64 (i + (1 : Int))))]) [(0, Blk.mk false [IV.vd x]), (1, Blk.mk true [IV.vi 16 z16]), (2, Blk.mk true [IV.vi 16 (l.set (0 + (i.tdiv (2 : Int)).toNat * 1) (l.getD (0 + (i.tdiv (2 : Int)).toNat * 1) (0 : Int) + (dg x).getD (0 + i.toNat * 1) (0 : Int)))])] 16, [decide (i < (↑(dg x).length : Int)) = true, (2 : Int) ≠ (0 : Int), (i.tmod (2 : Int) == (0 : Int)) = true, (2 : Int) ≠ (0 : Int), inI64 (i.tdiv (2 : Int)), (0 : Int) ≤ i.tdiv (2 : Int), (i.tdiv (2 : Int)).toNat < 16, 0 + (i.tdiv (2 : Int)).toNat * 1 < 16, (0 : Int) ≤ i, i.toNat < (dg x).length, 0 + i.toNat * 1 < (dg x).length, inI64 (l.getD (0 + (i.tdiv (2 : Int)).toNat * 1) (0 : Int) + (dg x).getD (0 + i.toNat * 1) (0 : Int)), (0 : Int) ≤ i.tdiv (2 : Int), (i.tdiv (2 : Int)).toNat < 16, 0 + (i.tdiv (2 : Int)).toNat * 1 < 16, inI64 (i + (1 : Int))]) := by kernel_rfl
theorem prOdd (x : Nat) (l : List Int) (i : Int) : roundS Try.prog (lookG []) (orcA [(3, [(3, true)]), (5, [(2, false)])]) [] 10 prTd (bodyAt Try.prog 73 3) (prInv x l i) =
    some (Ex.normal, St.mk (slotsOf 36 [(0, sc (IV.sl 0 0 (dg x).length)), (2, sc (IV.ptr 1 0)), (3, sc (IV.ptr 2 0)), (4, sc (IV.i64 (i + (1 : Int))))]) [(0, Blk.mk false [IV.vd x]), (1, Blk.mk true [IV.vi 16 z16]), (2, Blk.mk true [IV.vi 16 (l.set (0 + (i.tdiv (2 : Int)).toNat * 1) (l.getD (0 + (i.tdiv (2 : Int)).toNat * 1) (0 : Int) + (256 : Int) * (dg x).getD (0 + i.toNat * 1) (0 : Int)))])] 16, [decide (i < (↑(dg x).length : Int)) = true, (2 : Int) ≠ (0 : Int), (i.tmod (2 : Int) == (0 : Int)) = false, (2 : Int) ≠ (0 : Int), inI64 (i.tdiv (2 : Int)), (0 : Int) ≤ i.tdiv (2 : Int), (i.tdiv (2 : Int)).toNat < 16, 0 + (i.tdiv (2 : Int)).toNat * 1 < 16, (0 : Int) ≤ i, i.toNat < (dg x).length, 0 + i.toNat * 1 < (dg x).length, inI64 ((256 : Int) * (dg x).getD (0 + i.toNat * 1) (0 : Int)), inI64 (l.getD (0 + (i.tdiv (2 : Int)).toNat * 1) (0 : Int) + (256 : Int) * (dg x).getD (0 + i.toNat * 1) (0 : Int)), (0 : Int) ≤ i.tdiv (2 : Int), (i.tdiv (2 : Int)).toNat < 16, 0 + (i.tdiv (2 : Int)).toNat * 1 < 16, inI64 (i + (1 : Int))]) := by kernel_rfl
theorem prExit (x : Nat) (l : List Int) (i : Int) : roundS Try.prog (lookG []) (orcA [(3, [(3, false)])]) [] 10 prTd (bodyAt Try.prog 73 3) (prInv x l i) =
    some (Ex.exit 0, St.mk (slotsOf 36 [(0, sc (IV.sl 0 0 (dg x).length)), (2, sc (IV.ptr 1 0)), (3, sc (IV.ptr 2 0)), (4, sc (IV.i64 i))]) [(0, Blk.mk false [IV.vd x]), (1, Blk.mk true [IV.vi 16 z16]), (2, Blk.mk true [IV.vi 16 l])] 16, [decide (i < (↑(dg x).length : Int)) = false]) := by kernel_rfl
theorem runPairs (x : Nat) (l : List Int) (i : Int) : fnS Try.prog (lookG []) (orcA []) [⟨3, prTd, .exit 0, prInv x l i⟩] 10 73 [sc (.dN x)] =
    some (AV.val true [IV.vi 16 l], [LoopTo Try.prog (bodyAt Try.prog 73 3) (St.mk (slotsOf 36 [(0, sc (IV.sl 0 0 (dg x).length)), (2, sc (IV.ptr 1 0)), (3, sc (IV.ptr 2 0)), (4, sc (IV.i64 (0 : Int)))]) [(0, Blk.mk false [IV.vd x]), (1, Blk.mk true [IV.vi 16 [(0 : Int), (0 : Int), (0 : Int), (0 : Int), (0 : Int), (0 : Int), (0 : Int), (0 : Int), (0 : Int), (0 : Int), (0 : Int), (0 : Int), (0 : Int), (0 : Int), (0 : Int), (0 : Int)]]), (2, Blk.mk true [IV.vi 16 [(0 : Int), (0 : Int), (0 : Int), (0 : Int), (0 : Int), (0 : Int), (0 : Int), (0 : Int), (0 : Int), (0 : Int), (0 : Int), (0 : Int), (0 : Int), (0 : Int), (0 : Int), (0 : Int)]])] 16) (Ex.exit 0) (St.mk (slotsOf 36 [(0, sc (IV.sl 0 0 (dg x).length)), (2, sc (IV.ptr 1 0)), (3, sc (IV.ptr 2 0)), (4, sc (IV.i64 i))]) [(0, Blk.mk false [IV.vd x]), (1, Blk.mk true [IV.vi 16 z16]), (2, Blk.mk true [IV.vi 16 l])] 16)]) := by kernel_rfl
def byTd : List Nat := [1, 3, 4]
def byInv (x : Nat) (o : List Int) (i : Int) : St := ⟨slotsOf 22 [(1, sc (.ptr 0 0)), (3, sc (.sl 1 0 o.length)), (4, sc (.i64 i))], [(0, ⟨true, [.fe x]⟩), (1, ⟨true, [.vi o.length o]⟩)], 16⟩
theorem byRound (x : Nat) (o : List Int) (i : Int) : roundS Try.prog (lookG tblAt) (orcA [(3, [(1, true)])]) [] 10 byTd (bodyAt Try.prog 50 3) (byInv x o i) =
    some (Ex.normal, St.mk (slotsOf 22 [(1, sc (IV.ptr 0 0)), (3, sc (IV.sl 1 0 (o.length + 2))), (4, sc (IV.i64 (i + (1 : Int))))]) [(0, Blk.mk true [IV.fe x]), (1, Blk.mk true [IV.vi (o ++ ((List.replicate 2 (0 : Int)).set 0 ((dig16 x (0 + i.toNat * 1)).tmod (256 : Int))).set 1 ((dig16 x (0 + i.toNat * 1)).tdiv (256 : Int))).length (o ++ ((List.replicate 2 (0 : Int)).set 0 ((dig16 x (0 + i.toNat * 1)).tmod (256 : Int))).set 1 ((dig16 x (0 + i.toNat * 1)).tdiv (256 : Int)))])] 16, [decide (i < (16 : Int)) = true, (0 : Int) ≤ i, i.toNat < 16, 0 + i.toNat * 1 < 16, (256 : Int) ≠ (0 : Int), (0 : Int) ≤ i, i.toNat < 16, 0 + i.toNat * 1 < 16, (256 : Int) ≠ (0 : Int), inI64 ((dig16 x (0 + i.toNat * 1)).tdiv (256 : Int)), 2 = 2, o.length = o.length, (o.length + 2) * 8 ≤ 140737488355328 ∧ o.length + 2 ≤ 9223372036854775807, inI64 (i + (1 : Int))]) := by kernel_rfl
theorem byExit (x : Nat) (o : List Int) (i : Int) : roundS Try.prog (lookG tblAt) (orcA [(3, [(1, false)])]) [] 10 byTd (bodyAt Try.prog 50 3) (byInv x o i) =
    some (Ex.exit 0, St.mk (slotsOf 22 [(1, sc (IV.ptr 0 0)), (3, sc (IV.sl 1 0 o.length)), (4, sc (IV.i64 i))]) [(0, Blk.mk true [IV.fe x]), (1, Blk.mk true [IV.vi o.length o])] 16, [decide (i < (16 : Int)) = false]) := by kernel_rfl
theorem runBytesF (x : Nat) (o : List Int) (i : Int) : fnS Try.prog (lookG tblAt) (orcA []) [⟨3, byTd, .exit 0, byInv x o i⟩] 10 50 [.val true [.fe x]] =
    some (sc (IV.dI (cutL o 0 (trimFrom o o.length) o.length)), [LoopTo Try.prog (bodyAt Try.prog 50 3) (St.mk (slotsOf 22 [(1, sc (IV.ptr 0 0)), (3, sc (IV.sl 1 0 0)), (4, sc (IV.i64 (0 : Int)))]) [(0, Blk.mk true [IV.fe x]), (1, Blk.mk true [IV.vi 0 []])] 16) (Ex.exit 0) (St.mk (slotsOf 22 [(1, sc (IV.ptr 0 0)), (3, sc (IV.sl 1 0 o.length)), (4, sc (IV.i64 i))]) [(0, Blk.mk true [IV.fe x]), (1, Blk.mk true [IV.vi o.length o])] 16), o.length = o.length, o.length ≤ 1000000000, trimFrom o o.length ≤ o.length, 0 + trimFrom o o.length ≤ o.length]) := by kernel_rfl
def PpL : List Int := [237, 255, 255, 255, 255, 255, 255, 255, 255, 255, 255, 255, 255, 255, 255, 255, 255, 255, 255, 255, 255, 255, 255, 255, 255, 255, 255, 255, 255, 255, 255, 127]
theorem runPrime : ansOf (fnS Try.prog (lookG []) orc0 [] 40 75 []) = some (sc (.dI PpL)) := by kernel_rfl
theorem runPrimeC : acsOf (fnS Try.prog (lookG []) orc0 [] 40 75 []) = [32 ≤ 32] := by kernel_rfl
theorem tdiv2 (i : Nat) : ((i : Nat) : Int).tdiv (2 : Int) = ((i / 2 : Nat) : Int) := by
  rw [show (2 : Int) = ((2 : Nat) : Int) from rfl, ← Int.ofNat_tdiv]
theorem tmod2 (i : Nat) : ((i : Nat) : Int).tmod (2 : Int) = ((i % 2 : Nat) : Int) := by
  rw [show (2 : Int) = ((2 : Nat) : Int) from rfl, ← Int.ofNat_tmod]
theorem pow_even (k : Nat) : 256 ^ (2 * k) = 65536 ^ k := by rw [Nat.pow_mul]
theorem dg_getD (x i : Nat) : (dg x).getD i 0 = ((dig x i : Nat) : Int) := by
  have := getD_dig (dg_D x) i
  rw [nv_dg] at this
  exact this
theorem low_lt (x i : Nat) (hi : i ≤ 32) : x % 256 ^ i < p256 := by
  refine Nat.lt_of_lt_of_le (Nat.mod_lt _ (Nat.pow_pos (by omega))) ?_
  rw [show p256 = 256 ^ 32 by decide]
  exact Nat.pow_le_pow_right (by omega) hi
/-- One digit more. -/
theorem pr_step (x i k : Nat) (c : Nat) (hi : i < 32) (hk : k = i / 2) (hc : c = if i % 2 = 0 then 1 else 256) :
    (digs16 (x % 256 ^ i)).set k ((digs16 (x % 256 ^ i)).getD k 0 + (c : Int) * ((dig x i : Nat) : Int)) = digs16 (x % 256 ^ (i + 1)) := by
  have hk16 : k < 16 := by omega
  have hl := digs16_len (x % 256 ^ i)
  have hd := digs16_D (x % 256 ^ i)
  have hb := low_lt x i (by omega)
  have hdig := dig_lt x i
  have hg : (digs16 (x % 256 ^ i)).getD k 0 = if i % 2 = 0 then 0 else ((x % 256 ^ i / 65536 ^ k : Nat) : Int) := by
    rw [digs16_getD _ _ hk16]
    unfold dig16
    by_cases h2 : i % 2 = 0
    · have e : i = 2 * k := by omega
      rw [if_pos h2, e, pow_even, Nat.div_eq_of_lt (Nat.mod_lt _ (Nat.pow_pos (by omega)))]
      rfl
    · have e : i = 2 * k + 1 := by omega
      rw [if_neg h2, Nat.mod_eq_of_lt]
      have h3 : x % 256 ^ i < 65536 ^ k * 256 := by rw [← pow_even, e, ← Nat.pow_succ]; exact Nat.mod_lt _ (Nat.pow_pos (by omega))
      rw [Nat.mul_comm] at h3
      have := (Nat.div_lt_iff_lt_mul (Nat.pow_pos (n := k) (show 0 < 65536 by omega))).2 h3
      omega
  have hglt : 0 ≤ (digs16 (x % 256 ^ i)).getD k 0 ∧ (digs16 (x % 256 ^ i)).getD k 0 + (c : Int) * ((dig x i : Nat) : Int) < 65536 := by
    have h0 := (getD_mem hd k (by rw [hl]; exact hk16)).1
    refine ⟨h0, ?_⟩
    by_cases h2 : i % 2 = 0
    · rw [hg, if_pos h2, hc, if_pos h2]; omega
    · have e : i = 2 * k + 1 := by omega
      have h3 : x % 256 ^ i < 65536 ^ k * 256 := by rw [← pow_even, e, ← Nat.pow_succ]; exact Nat.mod_lt _ (Nat.pow_pos (by omega))
      rw [Nat.mul_comm] at h3
      have h4 := (Nat.div_lt_iff_lt_mul (Nat.pow_pos (n := k) (show 0 < 65536 by omega))).2 h3
      rw [hg, if_neg h2, hc, if_neg h2]
      generalize x % 256 ^ i / 65536 ^ k = q at *
      omega
  refine eq_digs16 (mem_getD fun j hj => ?_) (by rw [List.length_set, hl]) (low_lt x (i + 1) (by omega)) ?_
  · rw [List.length_set, hl] at hj
    rw [getD_setI _ _ _ _ (by rw [hl]; exact hk16)]
    split
    · have : 0 ≤ (c : Int) * ((dig x i : Nat) : Int) := Int.mul_nonneg (by omega) (by omega)
      omega
    · exact getD_mem hd j (by rw [hl]; exact hj)
  · rw [V_set _ (by rw [hl]; exact hk16), digs16_V, Nat.mod_eq_of_lt hb, mod_succ]
    have hp : 65536 ^ k * c = 256 ^ i := by
      rw [← pow_even, hc]
      by_cases h2 : i % 2 = 0
      · rw [if_pos h2, Nat.mul_one, show 2 * k = i by omega]
      · rw [if_neg h2, ← Nat.pow_succ]
        congr 1
        omega
    have e : (digs16 (x % 256 ^ i)).getD k 0 + (c : Int) * ((dig x i : Nat) : Int) - (digs16 (x % 256 ^ i)).getD k 0 = (c : Int) * ((dig x i : Nat) : Int) := by omega
    rw [e, ← hp, Int.natCast_add, Int.natCast_mul, Int.natCast_mul, Int.natCast_pow, Int.mul_assoc]
    rfl
theorem prLoop (x : Nat) (hx : x < p256) : LoopTo Try.prog (bodyAt Try.prog 73 3) (prInv x z16 0) (.exit 0) (prInv x (digs16 x) ((dg x).length : Nat)) := by
  have hlen : (dg x).length ≤ 32 := dg_length_le (by rw [← show p256 = 256 ^ 32 by decide]; exact hx)
  have hz : prInv x z16 0 = prInv x (digs16 (x % 256 ^ 0)) ((0 : Nat) : Int) := by
    rw [Nat.pow_zero, Nat.mod_one]; rfl
  have he0 : digs16 x = digs16 (x % 256 ^ (dg x).length) := by rw [Nat.mod_eq_of_lt (lt_of_dg x)]
  rw [hz, he0]
  refine LoopTo.intro (α := Nat) gs0 fol (fun i => prInv x (digs16 (x % 256 ^ i)) (i : Nat)) (fun i => i ≤ (dg x).length) (fun i => (dg x).length - i) (by simp) ?_ 0 (by simp)
  intro i hi
  by_cases he : i = (dg x).length
  · subst he
    exact .inr ⟨_, _, _, _, _, prExit _ _ _, ⟨decide_eq_false (by omega), trivial⟩⟩
  · have hb := getD_mem (digs16_D (x % 256 ^ i)) (i / 2) (by rw [digs16_len]; omega)
    have hdig := dig_lt x i
    have e1 : 0 + ((i / 2 : Nat) : Int).toNat * 1 = i / 2 := by omega
    have e2 : 0 + ((i : Nat) : Int).toNat * 1 = i := by omega
    have e4 : ((i : Nat) : Int) + 1 = ((i + 1 : Nat) : Int) := by omega
    by_cases h2 : i % 2 = 0
    · have r0 := prEven x (digs16 (x % 256 ^ i)) (i : Nat)
      have st := pr_step x i (i / 2) 1 (by omega) rfl (by rw [if_pos h2])
      rw [show ((1 : Nat) : Int) * ((dig x i : Nat) : Int) = ((dig x i : Nat) : Int) by omega] at st
      rw [tdiv2, tmod2, e1, e2, dg_getD, st] at r0
      simp only [e4] at r0
      refine .inl ⟨_, _, _, _, _, i + 1, r0, ?_, by omega, by omega⟩
      clear r0 st
      generalize (digs16 (x % 256 ^ i)).getD (i / 2) 0 = g at *
      simp only [AllP, inI64]
      and_intros <;> first | exact True.intro | exact decide_eq_true (by omega) | omega | (rw [beq_iff_eq]; omega)
    · have r0 := prOdd x (digs16 (x % 256 ^ i)) (i : Nat)
      have st := pr_step x i (i / 2) 256 (by omega) rfl (by rw [if_neg h2])
      rw [show ((256 : Nat) : Int) = 256 from rfl] at st
      rw [tdiv2, tmod2, e1, e2, dg_getD, st] at r0
      simp only [e4] at r0
      refine .inl ⟨_, _, _, _, _, i + 1, r0, ?_, by omega, by omega⟩
      clear r0 st
      generalize (digs16 (x % 256 ^ i)).getD (i / 2) 0 = g at *
      simp only [AllP, inI64]
      and_intros <;> first | exact True.intro | exact decide_eq_true (by omega) | omega | (rw [beq_eq_false_iff_ne]; omega)
def spPairsL : List AV → Option (AV × List Prop)
  | [.val false [.dN x]] => some (.val true [.vi 16 (digs16 x)], [x < p256])
  | _ => none
theorem ctPairsL : CtSOk Try.prog 73 (.fn spPairsL) := FnS_of_fnS gs0 fol fun ds r cs h hc => by
  unfold spPairsL at h
  split at h
  case h_2 => simp at h
  rename_i x
  simp only [Option.some.injEq, Prod.mk.injEq] at h
  obtain ⟨rfl, rfl⟩ := h
  exact use_run (runPairs x (digs16 x) ((dg x).length : Nat)) rfl ⟨prLoop x hc.1, trivial⟩
def spPairs : List AV → Option (AV × List Prop)
  | [.val false [.dN x]] => some (.val true [.fe x], [x < p256])
  | _ => none
theorem ctPairs : CtSOk Try.prog 73 (.fn spPairs) := FnS_fe ctPairsL fun ds r cs h hc => by
  unfold spPairs at h
  split at h
  case h_2 => simp at h
  simp only [Option.some.injEq, Prod.mk.injEq] at h
  obtain ⟨rfl, rfl⟩ := h
  exact ⟨_, rfl, hc⟩
theorem dl_two (x i : Nat) : dl x (2 * i) ++ ((List.replicate 2 (0 : Int)).set 0 ((dig16 x i).tmod (256 : Int))).set 1 ((dig16 x i).tdiv (256 : Int)) = dl x (2 * (i + 1)) := by
  have h := Nat.mod_lt (x / 65536 ^ i) (show 0 < 65536 by omega)
  have e1 : (dig16 x i).tmod 256 = ((dig x (2 * i) : Nat) : Int) := by
    unfold dig16
    rw [tmod_cast]
    unfold dig
    rw [pow_even]
    congr 1
    omega
  have e2 : (dig16 x i).tdiv 256 = ((dig x (2 * i + 1) : Nat) : Int) := by
    unfold dig16
    rw [tdiv_cast]
    unfold dig
    rw [Nat.pow_succ, pow_even, ← Nat.div_div_eq_div_mul]
    congr 1
    omega
  rw [e1, e2, show 2 * (i + 1) = 2 * i + 1 + 1 by omega]
  show _ = (dl x (2 * i) ++ [_]) ++ [_]
  rw [List.append_assoc]
  rfl
theorem byLoop (x : Nat) : LoopTo Try.prog (bodyAt Try.prog 50 3) (byInv x [] 0) (.exit 0) (byInv x (dl x 32) ((16 : Nat) : Int)) := by
  refine LoopTo.intro (α := Nat) gsAt fol (fun i => byInv x (dl x (2 * i)) (i : Nat)) (fun i => i ≤ 16) (fun i => 16 - i) (by simp) ?_ 0 (by simp)
  intro i hi
  by_cases he : i = 16
  · subst he
    exact .inr ⟨_, _, _, _, _, byExit _ _ _, rfl, trivial⟩
  · have r0 := byRound x (dl x (2 * i)) (i : Nat)
    have e2 : 0 + ((i : Nat) : Int).toNat * 1 = i := by omega
    have e4 : ((i : Nat) : Int) + 1 = ((i + 1 : Nat) : Int) := by omega
    have hl := (dl_ok x (2 * i)).1
    have hl2 := (dl_ok x (2 * (i + 1))).1
    rw [e2, dl_two, e4, show (dl x (2 * i)).length + 2 = (dl x (2 * (i + 1))).length by omega] at r0
    have hd := dig16_D x i
    have ed : (dig16 x i).tdiv 256 = dig16 x i / 256 := Int.tdiv_eq_ediv_of_nonneg hd.1
    refine .inl ⟨_, _, _, _, _, i + 1, r0, ?_, by omega, by omega⟩
    rw [ed]
    clear r0
    simp only [AllP, inI64]
    and_intros <;> first | exact True.intro | exact decide_eq_true (by omega) | omega
def spBytesL : List AV → Option (AV × List Prop)
  | [.val true [.fe x]] => some (sc (.dI (dg x)), [x < p256])
  | _ => none
theorem ctBytesL : CtSOk Try.prog 50 (.fn spBytesL) := FnS_of_fnS gsAt fol fun ds r cs h hc => by
  unfold spBytesL at h
  split at h
  case h_2 => simp at h
  rename_i x
  simp only [Option.some.injEq, Prod.mk.injEq] at h
  obtain ⟨rfl, rfl⟩ := h
  have hx := hc.1
  obtain ⟨l1, l2, l3⟩ := dl_ok x 32
  have tr : cutL (dl x 32) 0 (trimFrom (dl x 32) (dl x 32).length) (dl x 32).length = dg x := by
    rw [trim_dg l2, l3, ← show p256 = 256 ^ 32 by decide, Nat.mod_eq_of_lt hx]
  have tl : trimFrom (dl x 32) (dl x 32).length ≤ (dl x 32).length := trimFrom_le _ _
  refine use_run (runBytesF x (dl x 32) ((16 : Nat) : Int)) (by rw [tr]) ⟨byLoop x, rfl, by omega, tl, by omega, trivial⟩
def spBytesF : List AV → Option (AV × List Prop)
  | [.val true [.fe x]] => some (sc (.dN x), [x < p256])
  | _ => none
theorem ctBytesF : CtSOk Try.prog 50 (.fn spBytesF) := FnS_num ctBytesL fun ds r cs h hc => by
  unfold spBytesF at h
  split at h
  case h_2 => simp at h
  simp only [Option.some.injEq, Prod.mk.injEq] at h
  obtain ⟨rfl, rfl⟩ := h
  exact ⟨_, rfl, hc⟩
theorem PpL_dg : PpL = dg Pp := by
  have h1 : IsD PpL := by
    intro d hd
    have : PpL.all (fun d => decide (0 ≤ d) && decide (d < 256)) = true := by decide
    have := List.all_eq_true.1 this d hd
    simpa using this
  have h2 : nv PpL = Pp := by decide
  rw [← h2]
  exact eq_dg h1 (.inr (by decide))
def spPrL : List AV → Option (AV × List Prop)
  | [] => some (sc (.dI PpL), [])
  | _ => none
def spPr : List AV → Option (AV × List Prop)
  | [] => some (sc (.dN Pp), [])
  | _ => none
theorem ctPrL : CtSOk Try.prog 75 (.fn spPrL) := FnS_of_fnS gs0 fol fun ds r cs h hc => by
  unfold spPrL at h
  split at h
  case h_2 => simp at h
  simp only [Option.some.injEq, Prod.mk.injEq] at h
  obtain ⟨rfl, rfl⟩ := h
  exact use_run (ans_eq runPrime runPrimeC) rfl ⟨by omega, trivial⟩
theorem ctPr : CtSOk Try.prog 75 (.fn spPr) := FnS_num ctPrL fun ds r cs h hc => by
  unfold spPr at h
  split at h
  case h_2 => simp at h
  simp only [Option.some.injEq, Prod.mk.injEq] at h
  obtain ⟨rfl, rfl⟩ := h
  exact ⟨[], by rw [show ([] : List AV).map exA = [] from rfl, spPrL, PpL_dg]; rfl, trivial⟩
end Go.Proofs.Ytfhopbeieoffnaa
/- Products of sixteen digits, plainly. Own work. -/
namespace Go.Sp
open Go.Ev
def cvF (x y : Nat) (d : List Int) (i : Nat) : Nat → List Int
  | 0 => d
  | k + 1 => (cvF x y d i k).set (i + k) ((cvF x y d i k).getD (i + k) 0 + dig16 x i * dig16 y k)
structure CvOk (x y : Nat) (d : List Int) (B : Int) (i k : Nat) (e : List Int) : Prop where
  len : e.length = 31
  val : V e = V d + 65536 ^ i * (dig16 x i * ((y % 65536 ^ k : Nat) : Int))
  bnd : ∀ j, j < 31 → 0 ≤ e.getD j 0 ∧ e.getD j 0 ≤ B + 4294836225
  high : ∀ j, i + k ≤ j → e.getD j 0 = d.getD j 0
theorem dig_mul (x y i k : Nat) : 0 ≤ dig16 x i * dig16 y k ∧ dig16 x i * dig16 y k ≤ 4294836225 := by
  have h1 := dig16_D x i
  have h2 := dig16_D y k
  refine ⟨Int.mul_nonneg h1.1 h2.1, ?_⟩
  exact Int.le_trans (Int.mul_le_mul (show dig16 x i ≤ 65535 by omega) (show dig16 y k ≤ 65535 by omega) h2.1 (by omega)) (by omega)
theorem cv_ok (x y : Nat) {d : List Int} {B : Int} (hB : 0 ≤ B) (hn : d.length = 31) (hd : ∀ j, j < 31 → 0 ≤ d.getD j 0 ∧ d.getD j 0 ≤ B) {i : Nat} (hi : i < 16) : ∀ k, k ≤ 16 → CvOk x y d B i k (cvF x y d i k)
  | 0, _ => ⟨hn, by simp [cvF, Nat.mod_one], fun j hj => by have := hd j hj; show 0 ≤ d.getD j 0 ∧ _; exact ⟨this.1, by show d.getD j 0 ≤ _; omega⟩, fun j _ => rfl⟩
  | k + 1, hk => by
    obtain ⟨h1, h2, h3, h4⟩ := cv_ok x y hB hn hd hi k (by omega)
    have hm := dig_mul x y i k
    have e := h4 (i + k) (by omega)
    have hb := hd (i + k) (by omega)
    unfold cvF
    refine ⟨by rw [List.length_set, h1], ?_, fun j hj => ?_, fun j hj => ?_⟩
    · rw [V_set _ (by rw [h1]; omega), h2]
      have e1 : (cvF x y d i k).getD (i + k) 0 + dig16 x i * dig16 y k - (cvF x y d i k).getD (i + k) 0 = dig16 x i * dig16 y k := by omega
      have e2 : ((y % 65536 ^ (k + 1) : Nat) : Int) = ((y % 65536 ^ k : Nat) : Int) + 65536 ^ k * dig16 y k := by
        rw [Nat.mod_pow_succ, Int.natCast_add, Int.natCast_mul, Int.natCast_pow]; rfl
      rw [e1, e2, Int.pow_add, Int.mul_add, Int.mul_add, Int.add_assoc]
      congr 2
      rw [Int.mul_assoc, Int.mul_left_comm (65536 ^ k)]
    · rw [getD_setI _ _ _ _ (by rw [h1]; omega)]
      split
      · rw [e]; omega
      · exact h3 j hj
    · rw [getD_setI _ _ _ _ (by rw [h1]; omega), if_neg (by omega)]
      exact h4 j (by omega)
def z31 : List Int := List.replicate 31 0
def cvO (x y : Nat) : Nat → List Int
  | 0 => z31
  | i + 1 => cvF x y (cvO x y i) i 16
theorem cvO_ok (x y : Nat) (hy : y < p256) : ∀ i, i ≤ 16 → (cvO x y i).length = 31 ∧ V (cvO x y i) = ((x % 65536 ^ i * y : Nat) : Int) ∧ ∀ j, j < 31 → 0 ≤ (cvO x y i).getD j 0 ∧ (cvO x y i).getD j 0 ≤ 4294836225 * (i : Int)
  | 0, _ => ⟨rfl, by rw [Nat.pow_zero, Nat.mod_one, Nat.zero_mul]; rfl, fun j hj => by
      have : z31.getD j 0 = 0 := getD_mem (Q := fun d => d = 0) (fun d hd => List.eq_of_mem_replicate hd) j (by simp; exact hj)
      show 0 ≤ z31.getD j 0 ∧ z31.getD j 0 ≤ _
      rw [this]; omega⟩
  | i + 1, hi => by
    obtain ⟨h1, h2, h3⟩ := cvO_ok x y hy i (by omega)
    obtain ⟨a, b, c, _⟩ := cv_ok x y (show (0 : Int) ≤ 4294836225 * (i : Int) by omega) h1 h3 (show i < 16 by omega) 16 (Nat.le_refl _)
    refine ⟨a, ?_, fun j hj => ?_⟩
    · show V (cvF x y (cvO x y i) i 16) = _
      have e : (65536 : Int) ^ i * (dig16 x i * (y : Int)) = ((65536 ^ i * (x / 65536 ^ i % 65536) * y : Nat) : Int) := by
        rw [Int.natCast_mul, Int.natCast_mul, Int.natCast_pow, Int.mul_assoc]; rfl
      rw [b, h2, ← p256_eq, Nat.mod_eq_of_lt hy, Nat.mod_pow_succ, Nat.add_mul, Int.natCast_add, e]
    · have := c j hj
      show 0 ≤ (cvF x y (cvO x y i) i 16).getD j 0 ∧ _
      refine ⟨this.1, ?_⟩
      show (cvF x y (cvO x y i) i 16).getD j 0 ≤ _
      omega
theorem cvO_all (x y : Nat) (hx : x < p256) (hy : y < p256) : (cvO x y 16).length = 31 ∧ V (cvO x y 16) = ((x * y : Nat) : Int) ∧ ∀ j, j < 31 → 0 ≤ (cvO x y 16).getD j 0 ∧ (cvO x y 16).getD j 0 ≤ 68717379600 := by
  obtain ⟨a, b, c⟩ := cvO_ok x y hy 16 (Nat.le_refl _)
  rw [← p256_eq, Nat.mod_eq_of_lt hx] at b
  exact ⟨a, b, fun j hj => by have := c j hj; omega⟩
def outD (d : List Int) : List Int := (List.range 16).map fun i => if i + 16 < 31 then d.getD i 0 + 38 * d.getD (i + 16) 0 else d.getD i 0
theorem list31 {d : List Int} (h : d.length = 31) : ∃ d0 d1 d2 d3 d4 d5 d6 d7 d8 d9 d10 d11 d12 d13 d14 d15 d16 d17 d18 d19 d20 d21 d22 d23 d24 d25 d26 d27 d28 d29 d30, d = [d0, d1, d2, d3, d4, d5, d6, d7, d8, d9, d10, d11, d12, d13, d14, d15, d16, d17, d18, d19, d20, d21, d22, d23, d24, d25, d26, d27, d28, d29, d30] := by
  match d, h with
  | [_, _, _, _, _, _, _, _, _, _, _, _, _, _, _, _, _, _, _, _, _, _, _, _, _, _, _, _, _, _, _], _ => exact ⟨_, _, _, _, _, _, _, _, _, _, _, _, _, _, _, _, _, _, _, _, _, _, _, _, _, _, _, _, _, _, _, rfl⟩
theorem out_V {d : List Int} (h : d.length = 31) : V (outD d) = V (d.take 16) + 38 * V (d.drop 16) := by
  obtain ⟨d0, d1, d2, d3, d4, d5, d6, d7, d8, d9, d10, d11, d12, d13, d14, d15, d16, d17, d18, d19, d20, d21, d22, d23, d24, d25, d26, d27, d28, d29, d30, rfl⟩ := list31 h
  show V [d0 + 38 * d16, d1 + 38 * d17, d2 + 38 * d18, d3 + 38 * d19, d4 + 38 * d20, d5 + 38 * d21, d6 + 38 * d22, d7 + 38 * d23, d8 + 38 * d24, d9 + 38 * d25, d10 + 38 * d26, d11 + 38 * d27, d12 + 38 * d28, d13 + 38 * d29, d14 + 38 * d30, d15] = V [d0, d1, d2, d3, d4, d5, d6, d7, d8, d9, d10, d11, d12, d13, d14, d15] + 38 * V [d16, d17, d18, d19, d20, d21, d22, d23, d24, d25, d26, d27, d28, d29, d30]
  simp only [V]
  omega
theorem out_mod {d : List Int} {n : Nat} (h : d.length = 31) (h0 : ∀ j, j < 31 → 0 ≤ d.getD j 0) (hv : V d = (n : Int)) : ∃ m : Nat, V (outD d) = (m : Int) ∧ m % Pp = n % Pp := by
  have hnn : ∀ x ∈ d, 0 ≤ x := mem_getD fun i hi => h0 i (by rw [← h]; exact hi)
  have hlo := V_nonneg (l := d.take 16) fun x hx => hnn x (List.mem_of_mem_take hx)
  have hhi := V_nonneg (l := d.drop 16) fun x hx => hnn x (List.mem_of_mem_drop hx)
  have hs := V_append (d.take 16) (d.drop 16)
  rw [List.take_append_drop, List.length_take, h, hv] at hs
  have ho := out_V h
  obtain ⟨lo, hlo'⟩ := Int.eq_ofNat_of_zero_le hlo
  obtain ⟨hi, hhi'⟩ := Int.eq_ofNat_of_zero_le hhi
  rw [hlo', hhi'] at hs ho
  have hp : ((65536 : Int) ^ (min 16 31)) = ((p256 : Nat) : Int) := by decide
  rw [hp] at hs
  have hs' : n = lo + p256 * hi := by
    have : (n : Int) = ((lo + p256 * hi : Nat) : Int) := by rw [hs, Int.natCast_add, Int.natCast_mul]
    omega
  refine ⟨lo + 38 * hi, by rw [ho]; omega, ?_⟩
  have e : n = (lo + 38 * hi) + Pp * (2 * hi) := by
    rw [hs', show p256 = 2 * Pp + 38 by decide, Nat.add_mul, Nat.mul_assoc, Nat.mul_left_comm 2 Pp hi]
    omega
  rw [e, Nat.add_mul_mod_self_left]
theorem out_Sd {d : List Int} (h : ∀ j, j < 31 → 0 ≤ d.getD j 0 ∧ d.getD j 0 ≤ 68717379600) : Sd (outD d) := by
  refine ⟨by simp [outD], fun j hj => ?_⟩
  rw [outD, List.getD_eq_getElem?_getD, List.getElem?_map, List.getElem?_range hj]
  show 0 ≤ (if j + 16 < 31 then d.getD j 0 + 38 * d.getD (j + 16) 0 else d.getD j 0) ∧ _
  have h1 := h j (by omega)
  split
  · have h2 := h (j + 16) (by omega)
    simp only [Option.map_some, Option.getD_some]
    rw [if_pos (by assumption)]
    omega
  · simp only [Option.map_some, Option.getD_some]
    rw [if_neg (by assumption)]
    omega
def addL (x y : Nat) : List Int := (List.range 16).map fun i => dig16 x i + dig16 y i
theorem V_map_add (x y : Nat) : ∀ n s, V ((List.range' s n).map fun i => dig16 x i + dig16 y i) = V ((List.range' s n).map (dig16 x)) + V ((List.range' s n).map (dig16 y))
  | 0, _ => rfl
  | n + 1, s => by
    rw [List.range'_succ]
    simp only [List.map_cons, V]
    rw [V_map_add x y n (s + 1)]
    omega
theorem add_V (x y : Nat) (hx : x < p256) (hy : y < p256) : V (addL x y) = ((x + y : Nat) : Int) := by
  have h := V_map_add x y 16 0
  rw [← List.range_eq_range'] at h
  have h1 := digs16_V x
  have h2 := digs16_V y
  rw [Nat.mod_eq_of_lt hx] at h1
  rw [Nat.mod_eq_of_lt hy] at h2
  unfold addL
  rw [h]
  unfold digs16 at h1 h2
  rw [h1, h2]
  omega
theorem add_Sd (x y : Nat) : Sd (addL x y) := by
  refine ⟨by simp [addL], fun j hj => ?_⟩
  have h1 := dig16_D x j
  have h2 := dig16_D y j
  rw [addL, List.getD_eq_getElem?_getD, List.getElem?_map, List.getElem?_range hj]
  simp only [Option.map_some, Option.getD_some]
  omega
end Go.Sp
/- Contracts of the document's field: sums, negatives, products. Own work. -/
namespace Go.Proofs.Ytfhopbeieoffnaa
open Go.Ev Go.Sp Go.RowKit
set_option maxRecDepth 100000
/-- A contract over digits that takes numbers, too. -/
def orFe (spec : List AV → Option (AV × List Prop)) (ds : List AV) : Option (AV × List Prop) := spec (ds.map feA)
theorem FnS_orFe {P : Program} {f : FuncId} {spec : List AV → Option (AV × List Prop)} (h : FnS P f spec) : FnS P f (orFe spec) :=
  FnS_intro fun _ _ _ hd hc w vals hv => FnS_use h hd hc w vals (F2_DV_fe hv)
def tblE : List (FuncId × CtS) := [(76, .fn (orFe spSettled)), (73, .fn (orD spPairs)), (50, .fn spBytesF), (75, .fn spPr), (78, .fn (orD spNMinus)), (74, .fn (orD spNLeft)), (57, .fn spNDigits), (31, .fn (orD spNOf)), (94, .fn spNRead), (88, .fn (orD spNTold)), (90, .fn (orD spNLess))]
theorem okE : TblOk Try.prog tblE := ⟨⟨FnS_orFe ctSettled, by kernel_rfl⟩, ⟨FnS_orD ctPairs, by kernel_rfl⟩, ⟨ctBytesF, by kernel_rfl⟩, ⟨ctPr, by kernel_rfl⟩, ⟨FnS_orD nMinus, by kernel_rfl⟩, ⟨FnS_orD nLeft, by kernel_rfl⟩, ⟨nDigits, by kernel_rfl⟩, ⟨FnS_orD nOf, by kernel_rfl⟩, ⟨nRead, by kernel_rfl⟩, ⟨FnS_orD nTold, by kernel_rfl⟩, ⟨FnS_orD nLess, by kernel_rfl⟩, trivial⟩
theorem gsE : GSound Try.prog (upG (lookG tblE)) := GSound_of_tbl okE
def addW (x y : Nat) : List Int := (List.range 16).map fun i => IntKind.i64.wrap (dig16 x i + dig16 y i)
theorem runRAdd (x y : Nat) : fnS Try.prog (lookG tblE) orc0 [] 20 46 [.val true [.fe x], .val true [.fe y]] = some (.val true [.vi 16 (digs16 (vl (addW x y) % Pp))], [Sd (addW x y)]) := by kernel_rfl
theorem runInt (n : Int) : fnS Try.prog (lookG tblE) orc0 [] 20 47 [sc (.i64 n)] =
    some (AV.val true [IV.vi 16 ([(0 : Int), (0 : Int), (0 : Int), (0 : Int), (0 : Int), (0 : Int), (0 : Int), (0 : Int), (0 : Int), (0 : Int), (0 : Int), (0 : Int), (0 : Int), (0 : Int), (0 : Int), (0 : Int)].set 0 n)], []) := by kernel_rfl
theorem runFB (x : Nat) : fnS Try.prog (lookG tblE) (orcA []) [] 20 77 [sc (.dN x)] =
    some (AV.val true [IV.fe x], [(dg x).length = (dg x).length, x < p256]) := by kernel_rfl
theorem runROf (a : N4) : fnS Try.prog (lookG tblE) (orcA []) [] 20 42 [.val true [.n4 a]] =
    some (AV.val true [IV.fe (val a % Pp)], [(dg (val a)).length = (dg (val a)).length, 32 = 32, 0 < Pp, Sm (val a), Sm Pp, 32 ≤ 3999990, (dg (val a % Pp)).length = (dg (val a % Pp)).length, val a % Pp < p256]) := by kernel_rfl
theorem runRNum (x : Nat) : fnS Try.prog (lookG tblE) (orcA []) [] 20 16 [.val true [.fe x]] =
    some (AV.val true [IV.n4 (ofN x)], [x < p256, (dg x).length = (dg x).length]) := by kernel_rfl
def cvTd : List Nat := [2, 3, 4, 5, 6]
def cvTdI : List Nat := [2, 3, 4, 5, 6, 7]
def cvInv (x y : Nat) (d : List Int) (i : Int) : St := ⟨slotsOf 56 [(2, sc (.ptr 0 0)), (3, sc (.ptr 1 0)), (4, sc (.ptr 2 0)), (5, sc (.ptr 3 0)), (6, sc (.i64 i))], [(0, ⟨true, [.fe x]⟩), (1, ⟨true, [.fe y]⟩), (2, ⟨true, [.vi 16 z16]⟩), (3, ⟨true, [.vi 31 d]⟩)], 16⟩
def cvInvI (x y : Nat) (d : List Int) (i k : Int) : St := ⟨slotsOf 56 [(2, sc (.ptr 0 0)), (3, sc (.ptr 1 0)), (4, sc (.ptr 2 0)), (5, sc (.ptr 3 0)), (6, sc (.i64 i)), (7, sc (.i64 k))], [(0, ⟨true, [.fe x]⟩), (1, ⟨true, [.fe y]⟩), (2, ⟨true, [.vi 16 z16]⟩), (3, ⟨true, [.vi 31 d]⟩)], 16⟩
theorem cvIn (x y : Nat) (d : List Int) (i k : Int) : roundS Try.prog (lookG tblE) (orcA [(6, [(1, true)])]) [] 10 cvTdI (bodyAt Try.prog 43 6) (cvInvI x y d i k) =
    some (Ex.normal, St.mk (slotsOf 56 [(2, sc (IV.ptr 0 0)), (3, sc (IV.ptr 1 0)), (4, sc (IV.ptr 2 0)), (5, sc (IV.ptr 3 0)), (6, sc (IV.i64 i)), (7, sc (IV.i64 (k + (1 : Int))))]) [(0, Blk.mk true [IV.fe x]), (1, Blk.mk true [IV.fe y]), (2, Blk.mk true [IV.vi 16 z16]), (3, Blk.mk true [IV.vi 31 (d.set (0 + (i + k).toNat * 1) (d.getD (0 + (i + k).toNat * 1) (0 : Int) + dig16 x (0 + i.toNat * 1) * dig16 y (0 + k.toNat * 1)))])] 16, [decide (k < (16 : Int)) = true, inI64 (i + k), (0 : Int) ≤ i + k, (i + k).toNat < 31, 0 + (i + k).toNat * 1 < 31, (0 : Int) ≤ i, i.toNat < 16, 0 + i.toNat * 1 < 16, (0 : Int) ≤ k, k.toNat < 16, 0 + k.toNat * 1 < 16, inI64 (dig16 x (0 + i.toNat * 1) * dig16 y (0 + k.toNat * 1)), inI64 (d.getD (0 + (i + k).toNat * 1) (0 : Int) + dig16 x (0 + i.toNat * 1) * dig16 y (0 + k.toNat * 1)), (0 : Int) ≤ i + k, (i + k).toNat < 31, 0 + (i + k).toNat * 1 < 31, inI64 (k + (1 : Int))]) := by kernel_rfl
theorem cvInEx (x y : Nat) (d : List Int) (i k : Int) : roundS Try.prog (lookG tblE) (orcA [(6, [(1, false)])]) [] 10 cvTdI (bodyAt Try.prog 43 6) (cvInvI x y d i k) =
    some (Ex.exit 2, St.mk (slotsOf 56 [(2, sc (IV.ptr 0 0)), (3, sc (IV.ptr 1 0)), (4, sc (IV.ptr 2 0)), (5, sc (IV.ptr 3 0)), (6, sc (IV.i64 i)), (7, sc (IV.i64 k))]) [(0, Blk.mk true [IV.fe x]), (1, Blk.mk true [IV.fe y]), (2, Blk.mk true [IV.vi 16 z16]), (3, Blk.mk true [IV.vi 31 d])] 16, [decide (k < (16 : Int)) = false]) := by kernel_rfl
theorem cvRound (x y : Nat) (d e : List Int) (i k : Int) : roundS Try.prog (lookG tblE) (orcA [(3, [(1, true)])]) [⟨6, cvTdI, .exit 2, cvInvI x y e i k⟩] 10 cvTd (bodyAt Try.prog 43 3) (cvInv x y d i) =
    some (Ex.normal, St.mk (slotsOf 56 [(2, sc (IV.ptr 0 0)), (3, sc (IV.ptr 1 0)), (4, sc (IV.ptr 2 0)), (5, sc (IV.ptr 3 0)), (6, sc (IV.i64 (i + (1 : Int))))]) [(0, Blk.mk true [IV.fe x]), (1, Blk.mk true [IV.fe y]), (2, Blk.mk true [IV.vi 16 z16]), (3, Blk.mk true [IV.vi 31 e])] 16, [decide (i < (16 : Int)) = true, LoopTo Try.prog (bodyAt Try.prog 43 6) (St.mk (slotsOf 56 [(2, sc (IV.ptr 0 0)), (3, sc (IV.ptr 1 0)), (4, sc (IV.ptr 2 0)), (5, sc (IV.ptr 3 0)), (6, sc (IV.i64 i)), (7, sc (IV.i64 (0 : Int)))]) [(0, Blk.mk true [IV.fe x]), (1, Blk.mk true [IV.fe y]), (2, Blk.mk true [IV.vi 16 z16]), (3, Blk.mk true [IV.vi 31 d])] 16) (Ex.exit 2) (St.mk (slotsOf 56 [(2, sc (IV.ptr 0 0)), (3, sc (IV.ptr 1 0)), (4, sc (IV.ptr 2 0)), (5, sc (IV.ptr 3 0)), (6, sc (IV.i64 i)), (7, sc (IV.i64 k))]) [(0, Blk.mk true [IV.fe x]), (1, Blk.mk true [IV.fe y]), (2, Blk.mk true [IV.vi 16 z16]), (3, Blk.mk true [IV.vi 31 e])] 16), inI64 (i + (1 : Int))]) := by kernel_rfl
theorem cvEx (x y : Nat) (d : List Int) (i : Int) : roundS Try.prog (lookG tblE) (orcA [(3, [(1, false)])]) [] 10 cvTd (bodyAt Try.prog 43 3) (cvInv x y d i) =
    some (Ex.exit 0, St.mk (slotsOf 56 [(2, sc (IV.ptr 0 0)), (3, sc (IV.ptr 1 0)), (4, sc (IV.ptr 2 0)), (5, sc (IV.ptr 3 0)), (6, sc (IV.i64 i))]) [(0, Blk.mk true [IV.fe x]), (1, Blk.mk true [IV.fe y]), (2, Blk.mk true [IV.vi 16 z16]), (3, Blk.mk true [IV.vi 31 d])] 16, [decide (i < (16 : Int)) = false]) := by kernel_rfl
def outW (d : List Int) : List Int := (List.range 16).map fun i => if i + 16 < 31 then IntKind.i64.wrap (d.getD i 0 + IntKind.i64.wrap (38 * d.getD (i + 16) 0)) else d.getD i 0
theorem runRMul (x y : Nat) (d : List Int) (i : Int) : fnS Try.prog (lookG tblE) orc0 [⟨3, cvTd, .exit 0, cvInv x y d i⟩] 20 43 [.val true [.fe x], .val true [.fe y]] =
    some (.val true [.vi 16 (digs16 (vl (outW d) % Pp))], [LoopTo Try.prog (bodyAt Try.prog 43 3) (cvInv x y z31 0) (.exit 0) (cvInv x y d i), Sd (outW d)]) := by kernel_rfl
theorem wrap_id {z : Int} (h0 : 0 ≤ z) (h1 : z < 9223372036854775808) : IntKind.i64.wrap z = z := by
  rw [IntKind.wrap_i64]; omega
theorem addW_eq (x y : Nat) : addW x y = addL x y := by
  unfold addW addL
  apply List.map_congr_left
  intro i _
  have h1 := dig16_D x i
  have h2 := dig16_D y i
  exact wrap_id (by omega) (by omega)
theorem outW_eq {d : List Int} (h : ∀ j, j < 31 → 0 ≤ d.getD j 0 ∧ d.getD j 0 ≤ 68717379600) : outW d = outD d := by
  unfold outW outD
  apply List.map_congr_left
  intro i hi
  have hi := List.mem_range.1 hi
  have h1 := h i (by omega)
  split
  · rename_i h16
    have h2 := h (i + 16) h16
    rw [wrap_id (z := 38 * d.getD (i + 16) 0) (by omega) (by omega), wrap_id (by omega) (by omega)]
  · rfl
/-- Two elements. -/
def sp2F (f : Nat → Nat → Nat) : List AV → Option (AV × List Prop)
  | [.val true [.fe x], .val true [.fe y]] => some (.val true [.fe (f x y)], [x < Pp, y < Pp])
  | _ => none
def sp1F (f : Nat → Nat) : List AV → Option (AV × List Prop)
  | [.val true [.fe x]] => some (.val true [.fe (f x)], [x < Pp])
  | _ => none
/-- From an answer over digits. -/
theorem ct2F {f : FuncId} {g : Nat → Nat → Nat} {Γ : FuncId → Option CtS} (hΓ : GSound Try.prog (upG Γ)) (h : ∀ x y, x < Pp → y < Pp → ∃ orc sums fuel cs, fnS Try.prog Γ orc sums fuel f [.val true [.fe x], .val true [.fe y]] = some (.val true [.vi 16 (digs16 (g x y))], cs) ∧ AllP cs) : CtSOk Try.prog f (.fn (sp2F g)) := by
  refine FnS_intro fun ds r cs hd hc w vals hv => ?_
  unfold sp2F at hd
  split at hd
  case h_2 => simp at hd
  rename_i x y
  simp only [Option.some.injEq, Prod.mk.injEq] at hd
  obtain ⟨rfl, rfl⟩ := hd
  obtain ⟨orc, sums, fuel, cs, h1, h2⟩ := h x y hc.1 hc.2.1
  refine (calls_of_fnS hΓ fol h1 h2 w vals hv).mono ?_
  rintro e w' ⟨v, a, b, c⟩
  exact ⟨v, a, b, ResOk_fe c⟩
theorem ct1F {f : FuncId} {g : Nat → Nat} {Γ : FuncId → Option CtS} (hΓ : GSound Try.prog (upG Γ)) (h : ∀ x, x < Pp → ∃ orc sums fuel cs, fnS Try.prog Γ orc sums fuel f [.val true [.fe x]] = some (.val true [.vi 16 (digs16 (g x))], cs) ∧ AllP cs) : CtSOk Try.prog f (.fn (sp1F g)) := by
  refine FnS_intro fun ds r cs hd hc w vals hv => ?_
  unfold sp1F at hd
  split at hd
  case h_2 => simp at hd
  rename_i x
  simp only [Option.some.injEq, Prod.mk.injEq] at hd
  obtain ⟨rfl, rfl⟩ := hd
  obtain ⟨orc, sums, fuel, cs, h1, h2⟩ := h x hc.1
  refine (calls_of_fnS hΓ fol h1 h2 w vals hv).mono ?_
  rintro e w' ⟨v, a, b, c⟩
  exact ⟨v, a, b, ResOk_fe c⟩
def fAdd (x y : Nat) : Nat := (x + y) % Pp
def fMul (x y : Nat) : Nat := x * y % Pp
def fNeg (x : Nat) : Nat := (Pp - x) % Pp
theorem fAdd_lt (x y : Nat) : fAdd x y < Pp := Nat.mod_lt _ Pp_pos
theorem fMul_lt (x y : Nat) : fMul x y < Pp := Nat.mod_lt _ Pp_pos
theorem fNeg_lt (x : Nat) : fNeg x < Pp := Nat.mod_lt _ Pp_pos
theorem lt256 {x : Nat} (h : x < Pp) : x < p256 := Nat.lt_trans h Pp_lt
theorem ctFAdd : CtSOk Try.prog 46 (.fn (sp2F fAdd)) := ct2F gsE fun x y hx hy => by
  have r0 := runRAdd x y
  rw [addW_eq] at r0
  have hv : vl (addL x y) = x + y := by unfold vl; rw [add_V x y (lt256 hx) (lt256 hy)]; omega
  rw [hv] at r0
  exact ⟨_, _, _, _, r0, add_Sd x y, trivial⟩
theorem cvLoopI (x y : Nat) (d : List Int) (hd : d.length = 31) (hb : ∀ j, j < 31 → 0 ≤ d.getD j 0 ∧ d.getD j 0 ≤ 68717379600) (i : Nat) (hi : i < 16) :
    LoopTo Try.prog (bodyAt Try.prog 43 6) (cvInvI x y d (i : Nat) 0) (.exit 2) (cvInvI x y (cvF x y d i 16) (i : Nat) ((16 : Nat) : Int)) := by
  refine LoopTo.intro (α := Nat) gsE fol (fun k => cvInvI x y (cvF x y d i k) (i : Nat) (k : Nat)) (fun k => k ≤ 16) (fun k => 16 - k) (by simp) ?_ 0 (by simp)
  intro k hk
  by_cases he : k = 16
  · subst he
    exact .inr ⟨_, _, _, _, _, cvInEx _ _ _ _ _, rfl, trivial⟩
  · have ok := cv_ok x y (B := 68717379600) (by omega) hd hb hi k hk
    have hm := dig_mul x y i k
    have hg := ok.bnd (i + k) (by omega)
    have r0 := cvIn x y (cvF x y d i k) (i : Nat) (k : Nat)
    have e1 : 0 + (((i : Nat) : Int) + ((k : Nat) : Int)).toNat * 1 = i + k := by omega
    have e2 : 0 + ((k : Nat) : Int).toNat * 1 = k := by omega
    have e3 : 0 + ((i : Nat) : Int).toNat * 1 = i := by omega
    have e4 : ((k : Nat) : Int) + 1 = ((k + 1 : Nat) : Int) := by omega
    rw [e1, e2, e3] at r0
    have e5 : (cvF x y d i k).set (i + k) ((cvF x y d i k).getD (i + k) 0 + dig16 x i * dig16 y k) = cvF x y d i (k + 1) := rfl
    rw [e5] at r0
    simp only [e4] at r0
    refine .inl ⟨_, _, _, _, _, k + 1, r0, ?_, by omega, by omega⟩
    clear r0 ok e5
    generalize (cvF x y d i k).getD (i + k) 0 = g at *
    generalize dig16 x i * dig16 y k = p at *
    simp only [AllP, inI64]
    and_intros <;> first | exact True.intro | exact decide_eq_true (by omega) | omega
theorem cvLoop (x y : Nat) (hy : y < p256) : LoopTo Try.prog (bodyAt Try.prog 43 3) (cvInv x y z31 0) (.exit 0) (cvInv x y (cvO x y 16) ((16 : Nat) : Int)) := by
  refine LoopTo.intro (α := Nat) gsE fol (fun i => cvInv x y (cvO x y i) (i : Nat)) (fun i => i ≤ 16) (fun i => 16 - i) (by simp) ?_ 0 (by simp)
  intro i hi
  by_cases he : i = 16
  · subst he
    exact .inr ⟨_, _, _, _, _, cvEx _ _ _ _, rfl, trivial⟩
  · obtain ⟨a, _, c⟩ := cvO_ok x y hy i hi
    have lp := cvLoopI x y (cvO x y i) a (fun j hj => by have := c j hj; omega) i (by omega)
    have r0 := cvRound x y (cvO x y i) (cvO x y (i + 1)) (i : Nat) ((16 : Nat) : Int)
    have e4 : ((i : Nat) : Int) + 1 = ((i + 1 : Nat) : Int) := by omega
    simp only [e4] at r0
    exact .inl ⟨_, _, _, _, _, i + 1, r0, ⟨decide_eq_true (by omega), lp, by unfold inI64; omega, trivial⟩, by omega, by omega⟩
theorem ctFMul : CtSOk Try.prog 43 (.fn (sp2F fMul)) := ct2F gsE fun x y hx hy => by
  obtain ⟨a, b, c⟩ := cvO_all x y (lt256 hx) (lt256 hy)
  have r0 := runRMul x y (cvO x y 16) ((16 : Nat) : Int)
  rw [outW_eq c] at r0
  obtain ⟨m, hm, hmod⟩ := out_mod a (fun j hj => (c j hj).1) b
  have hv : vl (outD (cvO x y 16)) = m := by unfold vl; rw [hm]; omega
  rw [hv, hmod] at r0
  exact ⟨_, _, _, _, r0, cvLoop x y (lt256 hy), out_Sd c, trivial⟩
def spInt : List AV → Option (AV × List Prop)
  | [.val false [.i64 n]] => some (.val true [.fe n.toNat], [0 ≤ n, n < 65536])
  | _ => none
theorem int_digs (n : Nat) (h : n < 65536) : [(n : Int), 0, 0, 0, 0, 0, 0, 0, 0, 0, 0, 0, 0, 0, 0, 0] = digs16 n := by
  refine eq_digs16 (fun d hd => ?_) rfl (Nat.lt_trans h (by decide)) ?_
  · simp only [List.mem_cons, List.not_mem_nil, or_false] at hd
    omega
  · simp [V]
theorem ctInt : CtSOk Try.prog 47 (.fn spInt) := FnS_intro fun ds r cs hd hc w vals hv => by
  unfold spInt at hd
  split at hd
  case h_2 => simp at hd
  rename_i n
  simp only [Option.some.injEq, Prod.mk.injEq] at hd
  obtain ⟨rfl, rfl⟩ := hd
  obtain ⟨h0, h1, _⟩ := hc
  obtain ⟨m, rfl⟩ := Int.eq_ofNat_of_zero_le h0
  have e := int_digs m (by omega)
  have r0 := runInt (m : Int)
  have e2 : [(0 : Int), (0 : Int), (0 : Int), (0 : Int), (0 : Int), (0 : Int), (0 : Int), (0 : Int), (0 : Int), (0 : Int), (0 : Int), (0 : Int), (0 : Int), (0 : Int), (0 : Int), (0 : Int)].set 0 (m : Int) = digs16 m := by rw [← e]; rfl
  rw [e2] at r0
  refine (calls_of_fnS gsE fol r0 trivial w vals hv).mono ?_
  rintro e w' ⟨v, a, b, c⟩
  exact ⟨v, a, b, ResOk_fe c⟩
def spFB : List AV → Option (AV × List Prop)
  | [.val false [.dN x]] => some (.val true [.fe x], [x < p256])
  | _ => none
theorem ctFB : CtSOk Try.prog 77 (.fn spFB) := FnS_of_fnS gsE fol fun ds r cs h hc => by
  unfold spFB at h
  split at h
  case h_2 => simp at h
  rename_i x
  simp only [Option.some.injEq, Prod.mk.injEq] at h
  obtain ⟨rfl, rfl⟩ := h
  exact use_run (runFB x) rfl ⟨rfl, hc⟩
def spROf : List AV → Option (AV × List Prop)
  | [.val true [.n4 a]] => some (.val true [.fe (val a % Pp)], [])
  | _ => none
theorem Sm_Pp : Sm Pp := Sm_lt (k := 40) (by decide) (by omega)
theorem lenPp : (dg Pp).length = 32 := by rw [← PpL_dg]; rfl
theorem ctROf : CtSOk Try.prog 42 (.fn spROf) := FnS_of_fnS gsE fol fun ds r cs h hc => by
  unfold spROf at h
  split at h
  case h_2 => simp at h
  rename_i a
  simp only [Option.some.injEq, Prod.mk.injEq] at h
  obtain ⟨rfl, rfl⟩ := h
  have h1 := Nat.mod_lt (val a) Pp_pos
  refine use_run (runROf a) rfl ⟨rfl, rfl, Pp_pos, Sm_val a, Sm_Pp, ?_, rfl, lt256 h1, trivial⟩
  omega
def spRNum : List AV → Option (AV × List Prop)
  | [.val true [.fe x]] => some (.val true [.n4 (ofN x)], [x < p256])
  | _ => none
theorem ctRNum : CtSOk Try.prog 16 (.fn spRNum) := FnS_of_fnS gsE fol fun ds r cs h hc => by
  unfold spRNum at h
  split at h
  case h_2 => simp at h
  rename_i x
  simp only [Option.some.injEq, Prod.mk.injEq] at h
  obtain ⟨rfl, rfl⟩ := h
  exact use_run (runRNum x) rfl ⟨hc.1, rfl, trivial⟩
def spRPrime : List AV → Option (AV × List Prop)
  | [] => some (.val true [.n4 (ofN Pp)], [])
  | _ => none
def tblE2 : List (FuncId × CtS) :=
  (77, .fn (orD spFB)) :: tblE
theorem gsE2 : GSound Try.prog (upG (lookG tblE2)) := GSound_of_tbl ⟨⟨FnS_orD ctFB, by kernel_rfl⟩, okE⟩
theorem runRNeg (x : Nat) : fnS Try.prog (lookG tblE2) (orcA []) [] 20 48 [.val true [.fe x]] =
    some (AV.val true [IV.vi 16 (digs16 (vl (digs16 (Pp - x)) % Pp))], [32 = 32, Pp < p256, Pp < p256, x < p256, 32 = 32, (dg x).length = (dg x).length, x ≤ Pp, Sm Pp, (dg (Pp - x)).length = (dg (Pp - x)).length, Pp - x < p256, Sd (digs16 (Pp - x))]) := by kernel_rfl
end Go.Proofs.Ytfhopbeieoffnaa
/- Contracts of the document's field: powers, roots, bytes. Own work. -/
namespace Go.Proofs.Ytfhopbeieoffnaa
open Go.Ev Go.Sp Go.RowKit
set_option maxRecDepth 100000
theorem ctFNeg : CtSOk Try.prog 48 (.fn (sp1F fNeg)) := ct1F gsE2 fun x hx => by
  have r0 := runRNeg x
  have hlt : Pp - x < p256 := Nat.lt_of_le_of_lt (Nat.sub_le _ _) Pp_lt
  have hv : vl (digs16 (Pp - x)) = Pp - x := by unfold vl; rw [digs16_V, Nat.mod_eq_of_lt hlt]; omega
  rw [hv] at r0
  have hs : Sd (digs16 (Pp - x)) := ⟨digs16_len _, fun j hj => by
    have := getD_mem (digs16_D (Pp - x)) j (by rw [digs16_len]; exact hj)
    omega⟩
  exact ⟨_, _, _, _, r0, rfl, Pp_lt, Pp_lt, lt256 hx, rfl, rfl, Nat.le_of_lt hx, Sm_Pp, rfl, hlt, hs, trivial⟩
def tblE3 : List (FuncId × CtS) :=
  (46, .fn (sp2F fAdd)) :: (48, .fn (sp1F fNeg)) :: (43, .fn (sp2F fMul)) :: (47, .fn spInt) :: tblE2
theorem gsE3 : GSound Try.prog (upG (lookG tblE3)) := GSound_of_tbl ⟨⟨ctFAdd, by kernel_rfl⟩, ⟨ctFNeg, by kernel_rfl⟩, ⟨ctFMul, by kernel_rfl⟩, ⟨ctInt, by kernel_rfl⟩, ⟨FnS_orD ctFB, by kernel_rfl⟩, okE⟩
theorem runRSub (x y : Nat) : fnS Try.prog (lookG tblE3) (orcA []) [] 20 45 [.val true [.fe x], .val true [.fe y]] =
    some (AV.val true [IV.fe (fAdd x (fNeg y))], [y < Pp, x < Pp, fNeg y < Pp]) := by kernel_rfl
def tblL3 : List (FuncId × CtS) :=
  (81, .pre preTrim) :: tblE3
theorem gsL3 : GSound Try.prog (upG (lookG tblL3)) := GSound_of_tbl ⟨⟨ctTrim, by kernel_rfl⟩, ⟨ctFAdd, by kernel_rfl⟩, ⟨ctFNeg, by kernel_rfl⟩, ⟨ctFMul, by kernel_rfl⟩, ⟨ctInt, by kernel_rfl⟩, ⟨FnS_orD ctFB, by kernel_rfl⟩, okE⟩
def pw (a e : Nat) : Nat := a ^ e % Pp
theorem pw_mul (a m n : Nat) : fMul (pw a m) (pw a n) = pw a (m + n) := by
  unfold fMul pw
  rw [← Nat.mul_mod, Nat.pow_add]
theorem pw_lt (a e : Nat) : pw a e < Pp := Nat.mod_lt _ Pp_pos
def pwTd : List Nat := [1, 2, 4, 5, 6]
def pwTdI : List Nat := [1, 2, 4, 5, 6, 7, 8]
def pwInv (e a o : Nat) (i : Int) : St := ⟨slotsOf 36 [(1, sc (.sl 0 0 (dg e).length)), (2, sc (.ptr 1 0)), (4, sc (.ptr 2 0)), (5, sc (.ptr 3 0)), (6, sc (.i64 i))], [(0, ⟨false, [.vd e]⟩), (1, ⟨true, [.fe a]⟩), (2, ⟨true, [.vi 16 z16]⟩), (3, ⟨true, [.fe o]⟩)], 16⟩
def pwInvI (e a o : Nat) (i d k : Int) : St := ⟨slotsOf 36 [(1, sc (.sl 0 0 (dg e).length)), (2, sc (.ptr 1 0)), (4, sc (.ptr 2 0)), (5, sc (.ptr 3 0)), (6, sc (.i64 i)), (7, sc (.i64 d)), (8, sc (.i64 k))], [(0, ⟨false, [.vd e]⟩), (1, ⟨true, [.fe a]⟩), (2, ⟨true, [.vi 16 z16]⟩), (3, ⟨true, [.fe o]⟩)], 16⟩
theorem pwOne (e a o : Nat) (i d k : Int) : roundS Try.prog (lookG tblL3) (orcA [(7, [(1, true)]), (9, [(2, true)])]) [] 10 pwTdI (bodyAt Try.prog 79 7) (pwInvI e a o i d k) =
    some (Ex.normal, St.mk (slotsOf 36 [(1, sc (IV.sl 0 0 (dg e).length)), (2, sc (IV.ptr 1 0)), (4, sc (IV.ptr 2 0)), (5, sc (IV.ptr 3 0)), (6, sc (IV.i64 i)), (7, sc (IV.i64 (d.tdiv (2 : Int)))), (8, sc (IV.i64 (k + (1 : Int))))]) [(0, Blk.mk false [IV.vd e]), (1, Blk.mk true [IV.fe (fMul a a)]), (2, Blk.mk true [IV.vi 16 z16]), (3, Blk.mk true [IV.fe (fMul o a)])] 16, [decide (k < (8 : Int)) = true, (2 : Int) ≠ (0 : Int), (d.tmod (2 : Int) == (1 : Int)) = true, o < Pp, a < Pp, a < Pp, a < Pp, (2 : Int) ≠ (0 : Int), inI64 (d.tdiv (2 : Int)), inI64 (k + (1 : Int))]) := by kernel_rfl
theorem pwNil (e a o : Nat) (i d k : Int) : roundS Try.prog (lookG tblL3) (orcA [(7, [(1, true)]), (9, [(2, false)])]) [] 10 pwTdI (bodyAt Try.prog 79 7) (pwInvI e a o i d k) =
    some (Ex.normal, St.mk (slotsOf 36 [(1, sc (IV.sl 0 0 (dg e).length)), (2, sc (IV.ptr 1 0)), (4, sc (IV.ptr 2 0)), (5, sc (IV.ptr 3 0)), (6, sc (IV.i64 i)), (7, sc (IV.i64 (d.tdiv (2 : Int)))), (8, sc (IV.i64 (k + (1 : Int))))]) [(0, Blk.mk false [IV.vd e]), (1, Blk.mk true [IV.fe (fMul a a)]), (2, Blk.mk true [IV.vi 16 z16]), (3, Blk.mk true [IV.fe o])] 16, [decide (k < (8 : Int)) = true, (2 : Int) ≠ (0 : Int), (d.tmod (2 : Int) == (1 : Int)) = false, a < Pp, a < Pp, (2 : Int) ≠ (0 : Int), inI64 (d.tdiv (2 : Int)), inI64 (k + (1 : Int))]) := by kernel_rfl
theorem pwInEx (e a o : Nat) (i d k : Int) : roundS Try.prog (lookG tblL3) (orcA [(7, [(1, false)])]) [] 10 pwTdI (bodyAt Try.prog 79 7) (pwInvI e a o i d k) =
    some (Ex.exit 2, St.mk (slotsOf 36 [(1, sc (IV.sl 0 0 (dg e).length)), (2, sc (IV.ptr 1 0)), (4, sc (IV.ptr 2 0)), (5, sc (IV.ptr 3 0)), (6, sc (IV.i64 i)), (7, sc (IV.i64 d)), (8, sc (IV.i64 k))]) [(0, Blk.mk false [IV.vd e]), (1, Blk.mk true [IV.fe a]), (2, Blk.mk true [IV.vi 16 z16]), (3, Blk.mk true [IV.fe o])] 16, [decide (k < (8 : Int)) = false]) := by kernel_rfl
theorem pwRound (e a o a2 o2 : Nat) (i d k : Int) : roundS Try.prog (lookG tblL3) (orcA [(3, [(3, true)])]) [⟨7, pwTdI, .exit 2, pwInvI e a2 o2 i d k⟩] 10 pwTd (bodyAt Try.prog 79 3) (pwInv e a o i) =
    some (Ex.normal, St.mk (slotsOf 36 [(1, sc (IV.sl 0 0 (dg e).length)), (2, sc (IV.ptr 1 0)), (4, sc (IV.ptr 2 0)), (5, sc (IV.ptr 3 0)), (6, sc (IV.i64 (i + (1 : Int))))]) [(0, Blk.mk false [IV.vd e]), (1, Blk.mk true [IV.fe a2]), (2, Blk.mk true [IV.vi 16 z16]), (3, Blk.mk true [IV.fe o2])] 16, [decide (i < (↑(dg e).length : Int)) = true, (0 : Int) ≤ i, i.toNat < (dg e).length, 0 + i.toNat * 1 < (dg e).length, LoopTo Try.prog (bodyAt Try.prog 79 7) (St.mk (slotsOf 36 [(1, sc (IV.sl 0 0 (dg e).length)), (2, sc (IV.ptr 1 0)), (4, sc (IV.ptr 2 0)), (5, sc (IV.ptr 3 0)), (6, sc (IV.i64 i)), (7, sc (IV.i64 ((dg e).getD (0 + i.toNat * 1) (0 : Int)))), (8, sc (IV.i64 (0 : Int)))]) [(0, Blk.mk false [IV.vd e]), (1, Blk.mk true [IV.fe a]), (2, Blk.mk true [IV.vi 16 z16]), (3, Blk.mk true [IV.fe o])] 16) (Ex.exit 2) (St.mk (slotsOf 36 [(1, sc (IV.sl 0 0 (dg e).length)), (2, sc (IV.ptr 1 0)), (4, sc (IV.ptr 2 0)), (5, sc (IV.ptr 3 0)), (6, sc (IV.i64 i)), (7, sc (IV.i64 d)), (8, sc (IV.i64 k))]) [(0, Blk.mk false [IV.vd e]), (1, Blk.mk true [IV.fe a2]), (2, Blk.mk true [IV.vi 16 z16]), (3, Blk.mk true [IV.fe o2])] 16), inI64 (i + (1 : Int))]) := by kernel_rfl
theorem pwEx (e a o : Nat) (i : Int) : roundS Try.prog (lookG tblL3) (orcA [(3, [(3, false)])]) [] 10 pwTd (bodyAt Try.prog 79 3) (pwInv e a o i) =
    some (Ex.exit 0, St.mk (slotsOf 36 [(1, sc (IV.sl 0 0 (dg e).length)), (2, sc (IV.ptr 1 0)), (4, sc (IV.ptr 2 0)), (5, sc (IV.ptr 3 0)), (6, sc (IV.i64 i))]) [(0, Blk.mk false [IV.vd e]), (1, Blk.mk true [IV.fe a]), (2, Blk.mk true [IV.vi 16 z16]), (3, Blk.mk true [IV.fe o])] 16, [decide (i < (↑(dg e).length : Int)) = false]) := by kernel_rfl
theorem runPw (e a a2 o : Nat) (i : Int) : fnS Try.prog (lookG tblL3) (orcA []) [⟨3, pwTd, .exit 0, pwInv e a2 o i⟩] 10 79 [.val true [.fe a], sc (.dN e)] =
    some (AV.val true [IV.fe o], [(0 : Int) ≤ (1 : Int), (1 : Int) < (65536 : Int), LoopTo Try.prog (bodyAt Try.prog 79 3) (St.mk (slotsOf 36 [(1, sc (IV.sl 0 0 (dg e).length)), (2, sc (IV.ptr 1 0)), (4, sc (IV.ptr 2 0)), (5, sc (IV.ptr 3 0)), (6, sc (IV.i64 (0 : Int)))]) [(0, Blk.mk false [IV.vd e]), (1, Blk.mk true [IV.fe a]), (2, Blk.mk true [IV.vi 16 [(0 : Int), (0 : Int), (0 : Int), (0 : Int), (0 : Int), (0 : Int), (0 : Int), (0 : Int), (0 : Int), (0 : Int), (0 : Int), (0 : Int), (0 : Int), (0 : Int), (0 : Int), (0 : Int)]]), (3, Blk.mk true [IV.fe 1])] 16) (Ex.exit 0) (St.mk (slotsOf 36 [(1, sc (IV.sl 0 0 (dg e).length)), (2, sc (IV.ptr 1 0)), (4, sc (IV.ptr 2 0)), (5, sc (IV.ptr 3 0)), (6, sc (IV.i64 i))]) [(0, Blk.mk false [IV.vd e]), (1, Blk.mk true [IV.fe a2]), (2, Blk.mk true [IV.vi 16 z16]), (3, Blk.mk true [IV.fe o])] 16)]) := by kernel_rfl
def lsL21 : List Int := [235, 255, 255, 255, 255, 255, 255, 255, 255, 255, 255, 255, 255, 255, 255, 255, 255, 255, 255, 255, 255, 255, 255, 255, 255, 255, 255, 255, 255, 255, 255, 127]
theorem runLess21 : ansOf (fnS Try.prog (lookG tblL3) orc0 [] 40 80 [sc (.i64 2), sc (.i64 1)]) = some (sc (.dI lsL21)) := by kernel_rfl
theorem runLessC21 : acsOf (fnS Try.prog (lookG tblL3) orc0 [] 40 80 [sc (.i64 2), sc (.i64 1)]) = [32 = 32, 1 = 1, 2 ≤ Pp, Sm Pp, (List.replicate 1 (0 : Int)).set 0 (2 : Int) = dg 2, 32 = 32, 32 ≤ 1000000000, 32 ≤ 32, 32 ≤ 32] := by kernel_rfl
def lsL12 : List Int := [246, 255, 255, 255, 255, 255, 255, 255, 255, 255, 255, 255, 255, 255, 255, 255, 255, 255, 255, 255, 255, 255, 255, 255, 255, 255, 255, 255, 255, 255, 255, 63]
theorem runLess12 : ansOf (fnS Try.prog (lookG tblL3) orc0 [] 40 80 [sc (.i64 1), sc (.i64 2)]) = some (sc (.dI lsL12)) := by kernel_rfl
theorem runLessC12 : acsOf (fnS Try.prog (lookG tblL3) orc0 [] 40 80 [sc (.i64 1), sc (.i64 2)]) = [32 = 32, 1 = 1, 1 ≤ Pp, Sm Pp, (List.replicate 1 (0 : Int)).set 0 (1 : Int) = dg 1, 32 = 32, 32 ≤ 1000000000, 32 ≤ 32, 32 ≤ 32] := by kernel_rfl
def lsL14 : List Int := [251, 255, 255, 255, 255, 255, 255, 255, 255, 255, 255, 255, 255, 255, 255, 255, 255, 255, 255, 255, 255, 255, 255, 255, 255, 255, 255, 255, 255, 255, 255, 31]
theorem runLess14 : ansOf (fnS Try.prog (lookG tblL3) orc0 [] 40 80 [sc (.i64 1), sc (.i64 4)]) = some (sc (.dI lsL14)) := by kernel_rfl
theorem runLessC14 : acsOf (fnS Try.prog (lookG tblL3) orc0 [] 40 80 [sc (.i64 1), sc (.i64 4)]) = [32 = 32, 1 = 1, 1 ≤ Pp, Sm Pp, (List.replicate 1 (0 : Int)).set 0 (1 : Int) = dg 1, 32 = 32, 32 ≤ 1000000000, 32 ≤ 32, 32 ≤ 32] := by kernel_rfl
def lsL58 : List Int := [253, 255, 255, 255, 255, 255, 255, 255, 255, 255, 255, 255, 255, 255, 255, 255, 255, 255, 255, 255, 255, 255, 255, 255, 255, 255, 255, 255, 255, 255, 255, 15]
theorem runLess58 : ansOf (fnS Try.prog (lookG tblL3) orc0 [] 40 80 [sc (.i64 5), sc (.i64 8)]) = some (sc (.dI lsL58)) := by kernel_rfl
theorem runLessC58 : acsOf (fnS Try.prog (lookG tblL3) orc0 [] 40 80 [sc (.i64 5), sc (.i64 8)]) = [32 = 32, 1 = 1, 5 ≤ Pp, Sm Pp, (List.replicate 1 (0 : Int)).set 0 (5 : Int) = dg 5, 32 = 32, 32 ≤ 1000000000, 32 ≤ 32, 32 ≤ 32] := by kernel_rfl
theorem lsL21_dg : lsL21 = dg ((Pp - 2) / 1) := by
  have h1 : IsD lsL21 := by
    intro d hd
    have : lsL21.all (fun d => decide (0 ≤ d) && decide (d < 256)) = true := by decide
    have := List.all_eq_true.1 this d hd
    simpa using this
  have h2 : nv lsL21 = (Pp - 2) / 1 := by decide
  rw [← h2]
  exact eq_dg h1 (.inr (by decide))
theorem lsL12_dg : lsL12 = dg ((Pp - 1) / 2) := by
  have h1 : IsD lsL12 := by
    intro d hd
    have : lsL12.all (fun d => decide (0 ≤ d) && decide (d < 256)) = true := by decide
    have := List.all_eq_true.1 this d hd
    simpa using this
  have h2 : nv lsL12 = (Pp - 1) / 2 := by decide
  rw [← h2]
  exact eq_dg h1 (.inr (by decide))
theorem lsL14_dg : lsL14 = dg ((Pp - 1) / 4) := by
  have h1 : IsD lsL14 := by
    intro d hd
    have : lsL14.all (fun d => decide (0 ≤ d) && decide (d < 256)) = true := by decide
    have := List.all_eq_true.1 this d hd
    simpa using this
  have h2 : nv lsL14 = (Pp - 1) / 4 := by decide
  rw [← h2]
  exact eq_dg h1 (.inr (by decide))
theorem lsL58_dg : lsL58 = dg ((Pp - 5) / 8) := by
  have h1 : IsD lsL58 := by
    intro d hd
    have : lsL58.all (fun d => decide (0 ≤ d) && decide (d < 256)) = true := by decide
    have := List.all_eq_true.1 this d hd
    simpa using this
  have h2 : nv lsL58 = (Pp - 5) / 8 := by decide
  rw [← h2]
  exact eq_dg h1 (.inr (by decide))
/-- The prime less a number, divided. -/
def spLs3L : List AV → Option (AV × List Prop)
  | [.val false [.i64 2], .val false [.i64 1]] => some (sc (.dI (dg ((Pp - 2) / 1))), [])
  | [.val false [.i64 1], .val false [.i64 2]] => some (sc (.dI (dg ((Pp - 1) / 2))), [])
  | [.val false [.i64 1], .val false [.i64 4]] => some (sc (.dI (dg ((Pp - 1) / 4))), [])
  | [.val false [.i64 5], .val false [.i64 8]] => some (sc (.dI (dg ((Pp - 5) / 8))), [])
  | _ => none
def spLs3 : List AV → Option (AV × List Prop)
  | [.val false [.i64 2], .val false [.i64 1]] => some (sc (.dN ((Pp - 2) / 1)), [])
  | [.val false [.i64 1], .val false [.i64 2]] => some (sc (.dN ((Pp - 1) / 2)), [])
  | [.val false [.i64 1], .val false [.i64 4]] => some (sc (.dN ((Pp - 1) / 4)), [])
  | [.val false [.i64 5], .val false [.i64 8]] => some (sc (.dN ((Pp - 5) / 8)), [])
  | _ => none
theorem dg1 (n : Nat) (h : n < 256) (h0 : n ≠ 0) : (List.replicate 1 (0 : Int)).set 0 (n : Int) = dg n := by
  rw [dg_pos h0, Nat.mod_eq_of_lt h, Nat.div_eq_of_lt h, dg_zero]; rfl
theorem ctLs3L : CtSOk Try.prog 80 (.fn spLs3L) := FnS_of_fnS gsL3 fol fun ds r cs h hc => by
  unfold spLs3L at h
  split at h
  · simp only [Option.some.injEq, Prod.mk.injEq] at h
    obtain ⟨rfl, rfl⟩ := h
    exact use_run (ans_eq runLess21 runLessC21) (by rw [lsL21_dg]) ⟨rfl, rfl, by decide, Sm_Pp, dg1 2 (by omega) (by omega), rfl, by omega, by omega, by omega, trivial⟩
  · simp only [Option.some.injEq, Prod.mk.injEq] at h
    obtain ⟨rfl, rfl⟩ := h
    exact use_run (ans_eq runLess12 runLessC12) (by rw [lsL12_dg]) ⟨rfl, rfl, by decide, Sm_Pp, dg1 1 (by omega) (by omega), rfl, by omega, by omega, by omega, trivial⟩
  · simp only [Option.some.injEq, Prod.mk.injEq] at h
    obtain ⟨rfl, rfl⟩ := h
    exact use_run (ans_eq runLess14 runLessC14) (by rw [lsL14_dg]) ⟨rfl, rfl, by decide, Sm_Pp, dg1 1 (by omega) (by omega), rfl, by omega, by omega, by omega, trivial⟩
  · simp only [Option.some.injEq, Prod.mk.injEq] at h
    obtain ⟨rfl, rfl⟩ := h
    exact use_run (ans_eq runLess58 runLessC58) (by rw [lsL58_dg]) ⟨rfl, rfl, by decide, Sm_Pp, dg1 5 (by omega) (by omega), rfl, by omega, by omega, by omega, trivial⟩
  · simp at h
theorem ctLs3 : CtSOk Try.prog 80 (.fn spLs3) := FnS_num ctLs3L fun ds r cs h hc => by
  unfold spLs3 at h
  split at h
  · simp only [Option.some.injEq, Prod.mk.injEq] at h
    obtain ⟨rfl, rfl⟩ := h
    exact ⟨[], rfl, trivial⟩
  · simp only [Option.some.injEq, Prod.mk.injEq] at h
    obtain ⟨rfl, rfl⟩ := h
    exact ⟨[], rfl, trivial⟩
  · simp only [Option.some.injEq, Prod.mk.injEq] at h
    obtain ⟨rfl, rfl⟩ := h
    exact ⟨[], rfl, trivial⟩
  · simp only [Option.some.injEq, Prod.mk.injEq] at h
    obtain ⟨rfl, rfl⟩ := h
    exact ⟨[], rfl, trivial⟩
  · simp at h
/-- One digit's bits. -/
theorem pwLoopI (A e m n : Nat) (D : Nat) (hD : D < 256) (i : Int) :
    LoopTo Try.prog (bodyAt Try.prog 79 7) (pwInvI e (pw A n) (pw A m) i (D : Nat) 0) (.exit 2) (pwInvI e (pw A (n * 256)) (pw A (m + n * D)) i ((0 : Nat) : Int) ((8 : Nat) : Int)) := by
  have h0 : pwInvI e (pw A n) (pw A m) i (D : Nat) 0 = pwInvI e (pw A (n * 2 ^ 0)) (pw A (m + n * (D % 2 ^ 0))) i ((D / 2 ^ 0 : Nat) : Int) ((0 : Nat) : Int) := by
    simp [Nat.mod_one]
  have h8 : pwInvI e (pw A (n * 256)) (pw A (m + n * D)) i ((0 : Nat) : Int) ((8 : Nat) : Int) = pwInvI e (pw A (n * 2 ^ 8)) (pw A (m + n * (D % 2 ^ 8))) i ((D / 2 ^ 8 : Nat) : Int) ((8 : Nat) : Int) := by
    rw [show (2 : Nat) ^ 8 = 256 from rfl, Nat.mod_eq_of_lt hD, Nat.div_eq_of_lt hD]
  rw [h0, h8]
  refine LoopTo.intro (α := Nat) gsL3 fol (fun k => pwInvI e (pw A (n * 2 ^ k)) (pw A (m + n * (D % 2 ^ k))) i ((D / 2 ^ k : Nat) : Int) (k : Nat)) (fun k => k ≤ 8) (fun k => 8 - k) (by simp) ?_ 0 (by simp)
  intro k hk
  have hle : D / 2 ^ k ≤ D := Nat.div_le_self _ _
  have hsq : fMul (pw A (n * 2 ^ k)) (pw A (n * 2 ^ k)) = pw A (n * 2 ^ (k + 1)) := by
    rw [pw_mul, Nat.pow_succ, ← Nat.mul_assoc]; congr 1; omega
  have hdv : ((D / 2 ^ k : Nat) : Int).tdiv (2 : Int) = ((D / 2 ^ (k + 1) : Nat) : Int) := by
    rw [tdiv2, Nat.pow_succ, Nat.div_div_eq_div_mul]
  have e4 : ((k : Nat) : Int) + 1 = ((k + 1 : Nat) : Int) := by omega
  have hmod : D % 2 ^ (k + 1) = D % 2 ^ k + 2 ^ k * (D / 2 ^ k % 2) := Nat.mod_pow_succ
  by_cases he : k = 8
  · subst he
    exact .inr ⟨_, _, _, _, _, pwInEx _ _ _ _ _ _, rfl, trivial⟩
  · by_cases hb : D / 2 ^ k % 2 = 1
    · have r0 := pwOne e (pw A (n * 2 ^ k)) (pw A (m + n * (D % 2 ^ k))) i ((D / 2 ^ k : Nat) : Int) (k : Nat)
      have hm : fMul (pw A (m + n * (D % 2 ^ k))) (pw A (n * 2 ^ k)) = pw A (m + n * (D % 2 ^ (k + 1))) := by
        rw [pw_mul, hmod, hb, Nat.mul_one, Nat.mul_add, Nat.add_assoc]
      rw [hsq, hdv, hm, e4] at r0
      refine .inl ⟨_, _, _, _, _, k + 1, r0, ?_, by omega, by omega⟩
      have hle2 : inI64 ((D / 2 ^ (k + 1) : Nat) : Int) := by
        have h3 : D / 2 ^ (k + 1) ≤ D := Nat.div_le_self _ _
        generalize D / 2 ^ (k + 1) = q at h3
        unfold inI64
        omega
      rw [tmod2, hb]
      exact ⟨decide_eq_true (by omega), by omega, rfl, pw_lt _ _, pw_lt _ _, pw_lt _ _, pw_lt _ _, by omega, hle2, by unfold inI64; omega, trivial⟩
    · have r0 := pwNil e (pw A (n * 2 ^ k)) (pw A (m + n * (D % 2 ^ k))) i ((D / 2 ^ k : Nat) : Int) (k : Nat)
      have hb0 : D / 2 ^ k % 2 = 0 := by omega
      have hm : pw A (m + n * (D % 2 ^ k)) = pw A (m + n * (D % 2 ^ (k + 1))) := by
        rw [hmod, hb0, Nat.mul_zero, Nat.add_zero]
      rw [hsq, hdv, e4] at r0
      rw [hm] at r0 ⊢
      refine .inl ⟨_, _, _, _, _, k + 1, r0, ?_, by omega, by omega⟩
      have hle2 : inI64 ((D / 2 ^ (k + 1) : Nat) : Int) := by
        have h3 : D / 2 ^ (k + 1) ≤ D := Nat.div_le_self _ _
        generalize D / 2 ^ (k + 1) = q at h3
        unfold inI64
        omega
      rw [tmod2, hb0]
      exact ⟨decide_eq_true (by omega), by omega, rfl, pw_lt _ _, pw_lt _ _, by omega, hle2, by unfold inI64; omega, trivial⟩
theorem pwLoop (A e : Nat) (hA : A < Pp) (he : Sm e) : LoopTo Try.prog (bodyAt Try.prog 79 3) (pwInv e A 1 0) (.exit 0) (pwInv e (pw A (256 ^ (dg e).length)) (pw A e) ((dg e).length : Nat)) := by
  have h0 : pwInv e A 1 0 = pwInv e (pw A (256 ^ 0)) (pw A (e % 256 ^ 0)) ((0 : Nat) : Int) := by
    have h1 : pw A (256 ^ 0) = A := by unfold pw; rw [Nat.pow_zero, Nat.pow_one, Nat.mod_eq_of_lt hA]
    have h2 : pw A (e % 256 ^ 0) = 1 := by unfold pw; rw [Nat.pow_zero, Nat.mod_one, Nat.pow_zero]; decide
    rw [h1, h2]; rfl
  have hn : pw A e = pw A (e % 256 ^ (dg e).length) := by rw [Nat.mod_eq_of_lt (lt_of_dg e)]
  rw [h0, hn]
  refine LoopTo.intro (α := Nat) gsL3 fol (fun i => pwInv e (pw A (256 ^ i)) (pw A (e % 256 ^ i)) (i : Nat)) (fun i => i ≤ (dg e).length) (fun i => (dg e).length - i) (by simp) ?_ 0 (by simp)
  intro i hi
  have hs : (dg e).length ≤ 4000000 := he
  by_cases hl : i = (dg e).length
  · rw [hl]
    exact .inr ⟨_, _, _, _, _, pwEx _ _ _ _, decide_eq_false (by omega), trivial⟩
  · have r0 := pwRound e (pw A (256 ^ i)) (pw A (e % 256 ^ i)) (pw A (256 ^ (i + 1))) (pw A (e % 256 ^ (i + 1))) (i : Nat) ((0 : Nat) : Int) ((8 : Nat) : Int)
    have e2 : 0 + ((i : Nat) : Int).toNat * 1 = i := by omega
    have e4 : ((i : Nat) : Int) + 1 = ((i + 1 : Nat) : Int) := by omega
    have lp := pwLoopI A e (e % 256 ^ i) (256 ^ i) (dig e i) (dig_lt e i) (i : Nat)
    rw [← Nat.pow_succ, ← mod_succ] at lp
    rw [e2, e4, dg_getD] at r0
    refine .inl ⟨_, _, _, _, _, i + 1, r0, ?_, by omega, by omega⟩
    exact ⟨decide_eq_true (by omega), by omega, by omega, by omega, lp, by unfold inI64; omega, trivial⟩
def spPow : List AV → Option (AV × List Prop)
  | [.val true [.fe a], .val false [.dN e]] => some (.val true [.fe (pw a e)], [a < Pp, Sm e])
  | _ => none
theorem ctPow : CtSOk Try.prog 79 (.fn spPow) := FnS_of_fnS gsL3 fol fun ds r cs h hc => by
  unfold spPow at h
  split at h
  case h_2 => simp at h
  rename_i a e
  simp only [Option.some.injEq, Prod.mk.injEq] at h
  obtain ⟨rfl, rfl⟩ := h
  obtain ⟨ha, he, _⟩ := hc
  exact use_run (runPw e a (pw a (256 ^ (dg e).length)) (pw a e) ((dg e).length : Nat)) rfl ⟨by omega, by omega, pwLoop a e ha he, trivial⟩
def fSub (x y : Nat) : Nat := fAdd x (fNeg y)
theorem ctFSub : CtSOk Try.prog 45 (.fn (sp2F fSub)) := FnS_of_fnS gsE3 fol fun ds r cs h hc => by
  unfold sp2F at h
  split at h
  case h_2 => simp at h
  rename_i x y
  simp only [Option.some.injEq, Prod.mk.injEq] at h
  obtain ⟨rfl, rfl⟩ := h
  exact use_run (runRSub x y) rfl ⟨hc.2.1, hc.1, fNeg_lt y, trivial⟩
end Go.Proofs.Ytfhopbeieoffnaa
/- Contracts of the document's field: inverses, roots, bytes. Own work. -/
namespace Go.Proofs.Ytfhopbeieoffnaa
open Go.Ev Go.Sp Go.RowKit
set_option maxRecDepth 100000
def tblH : List (FuncId × CtS) :=
  (80, .fn (orD spLs3)) :: (79, .fn (orD spPow)) :: tblL3
theorem gsH : GSound Try.prog (upG (lookG tblH)) := GSound_of_tbl ⟨⟨FnS_orD ctLs3, by kernel_rfl⟩, ⟨FnS_orD ctPow, by kernel_rfl⟩, ⟨ctTrim, by kernel_rfl⟩, ⟨ctFAdd, by kernel_rfl⟩, ⟨ctFNeg, by kernel_rfl⟩, ⟨ctFMul, by kernel_rfl⟩, ⟨ctInt, by kernel_rfl⟩, ⟨FnS_orD ctFB, by kernel_rfl⟩, okE⟩
theorem runRInv (x : Nat) : fnS Try.prog (lookG tblH) (orcA []) [] 20 49 [.val true [.fe x]] =
    some (AV.val true [IV.fe (pw x 57896044618658097711785492504343953926634992332820282019728792003956564819947)], [32 = 32, x < Pp, Sm 57896044618658097711785492504343953926634992332820282019728792003956564819947]) := by kernel_rfl
theorem runEvT (x y : Nat) : fnS Try.prog (lookG tblH) (orcA [(1, [(3, true)])]) [] 20 92 [.val true [.fe x], .val true [.fe y]] =
    some (sc (IV.bool (digs16 (fMul x x) == digs16 y && true)), [(0 : Int) ≤ (0 : Int), 0 < 16, 0 < 16, (2 : Int) ≠ (0 : Int), ((dig16 x 0).tmod (2 : Int) == (0 : Int)) = true, x < Pp, x < Pp]) := by kernel_rfl
theorem runEvF (x y : Nat) : fnS Try.prog (lookG tblH) (orcA [(1, [(3, false)])]) [] 20 92 [.val true [.fe x], .val true [.fe y]] =
    some (sc (IV.bool false), [(0 : Int) ≤ (0 : Int), 0 < 16, 0 < 16, (2 : Int) ≠ (0 : Int), ((dig16 x 0).tmod (2 : Int) == (0 : Int)) = false]) := by kernel_rfl
theorem runRDec (b : List (BitVec 8)) : fnS Try.prog (lookG tblH) (orcA [(1, [(2, false)]), (4, [(3, false)])]) [] 20 86 [sc (.d8 b)] =
    some (AV.tup [(true, [IV.fe (bv b)]), (false, [IV.i64 (0 : Int)])], [(!(↑b.length : Int) == (32 : Int)) = false, b.length = b.length, b.length ≤ 4000000, (dg (bv b)).length = (dg (bv b)).length, 32 = 32, Sm (bv b), Sm Pp, (!decide (bv b < Pp)) = false, (dg (bv b)).length = (dg (bv b)).length, bv b < p256]) := by kernel_rfl
theorem runRDec1 (b : List (BitVec 8)) : fnS Try.prog (lookG tblH) (orcA [(1, [(2, true)])]) [] 20 86 [sc (.d8 b)] =
    some (AV.tup [(true, [IV.fe 0]), (false, [IV.i64 (1 : Int)])], [(!(↑b.length : Int) == (32 : Int)) = true, (0 : Int) ≤ (0 : Int), (0 : Int) < (65536 : Int)]) := by kernel_rfl
theorem runRDec6 (b : List (BitVec 8)) : fnS Try.prog (lookG tblH) (orcA [(1, [(2, false)]), (4, [(3, true)])]) [] 20 86 [sc (.d8 b)] =
    some (AV.tup [(true, [IV.fe 0]), (false, [IV.i64 (6 : Int)])], [(!(↑b.length : Int) == (32 : Int)) = false, b.length = b.length, b.length ≤ 4000000, (dg (bv b)).length = (dg (bv b)).length, 32 = 32, Sm (bv b), Sm Pp, (!decide (bv b < Pp)) = true, (0 : Int) ≤ (0 : Int), (0 : Int) < (65536 : Int)]) := by kernel_rfl
theorem runREnc (x : Nat) : fnS Try.prog (lookG tblH) (orcA []) [] 20 67 [.val true [.fe x]] =
    some (sc (IV.d8 (cutL (bl x 32) 0 (bl x 32).length (bl x 32).length)), [x < p256, (dg x).length = (dg x).length, (0 : Int) ≤ (32 : Int), (32 : Int) ≤ (4000000 : Int), 0 + (bl x 32).length ≤ (bl x 32).length]) := by kernel_rfl
theorem digs16_inj {x y : Nat} (hx : x < p256) (hy : y < p256) (h : digs16 x = digs16 y) : x = y := by
  have := congrArg V h
  rw [digs16_V, digs16_V, Nat.mod_eq_of_lt hx, Nat.mod_eq_of_lt hy] at this
  omega
theorem digs16_beq {x y : Nat} (hx : x < p256) (hy : y < p256) : (digs16 x == digs16 y && true) = (x == y) := by
  rw [Bool.and_true]
  by_cases h : x = y
  · subst h; rw [beq_self_eq_true, beq_self_eq_true]
  · rw [beq_eq_false_iff_ne.2 h, beq_eq_false_iff_ne.2 fun e => h (digs16_inj hx hy e)]
def Pe : Nat := 57896044618658097711785492504343953926634992332820282019728792003956564819947
def Ph : Nat := 28948022309329048855892746252171976963317496166410141009864396001978282409974
def fInv (x : Nat) : Nat := pw x Pe
theorem Sm_Pe : Sm Pe := Sm_lt (k := 40) (by decide) (by omega)
theorem Sm_Ph : Sm Ph := Sm_lt (k := 40) (by decide) (by omega)
theorem ctFInv : CtSOk Try.prog 49 (.fn (sp1F fInv)) := FnS_of_fnS gsH fol fun ds r cs h hc => by
  unfold sp1F at h
  split at h
  case h_2 => simp at h
  rename_i x
  simp only [Option.some.injEq, Prod.mk.injEq] at h
  obtain ⟨rfl, rfl⟩ := h
  exact use_run (runRInv x) rfl ⟨rfl, hc.1, Sm_Pe, trivial⟩
def sqV (x : Nat) : Bool := pw x Ph == 1 || x == 0
def spSq : List AV → Option (AV × List Prop)
  | [.val true [.fe x]] => some (sc (.bool (sqV x)), [x < Pp])
  | _ => none
theorem one256 : 1 < p256 := by decide
theorem zero256 : 0 < p256 := by decide
def evV (r a : Nat) : Bool := r % 2 == 0 && fMul r r == a
def spEv : List AV → Option (AV × List Prop)
  | [.val true [.fe r], .val true [.fe a]] => some (sc (.bool (evV r a)), [r < Pp, a < Pp])
  | _ => none
theorem dig0_mod (x : Nat) : ((dig16 x 0).tmod (2 : Int) == (0 : Int)) = (x % 2 == 0) := by
  unfold dig16
  rw [tmod2, Nat.pow_zero, Nat.div_one]
  by_cases h : x % 2 = 0
  · rw [show x % 65536 % 2 = 0 by omega, h]; rfl
  · rw [show x % 65536 % 2 = 1 by omega, show x % 2 = 1 by omega]; rfl
theorem ctEv : CtSOk Try.prog 92 (.fn spEv) := FnS_of_fnS gsH fol fun ds r cs h hc => by
  unfold spEv at h
  split at h
  case h_2 => simp at h
  rename_i r a
  simp only [Option.some.injEq, Prod.mk.injEq] at h
  obtain ⟨rfl, rfl⟩ := h
  obtain ⟨hr, ha, _⟩ := hc
  have e := digs16_beq (lt256 (fMul_lt r r)) (lt256 ha)
  by_cases h : (r % 2 == 0) = true
  · exact use_run (runEvT r a) (by rw [evV, h, e]; rfl) ⟨by omega, by omega, by omega, by omega, (dig0_mod r).trans h, hr, hr, trivial⟩
  · have h' : (r % 2 == 0) = false := by simpa using h
    exact use_run (runEvF r a) (by rw [evV, h']; rfl) ⟨by omega, by omega, by omega, by omega, (dig0_mod r).trans h', trivial⟩
def decV (b : List (BitVec 8)) : Nat × Int := if b.length = 32 then if bv b < Pp then (bv b, 0) else (0, 6) else (0, 1)
def spRDec : List AV → Option (AV × List Prop)
  | [.val false [.d8 b]] => some (.tup [(true, [.fe (decV b).1]), (false, [.i64 (decV b).2])], [])
  | _ => none
theorem decF {p : Prop} [Decidable p] (h : p) : (!decide p) = false := by simp [h]
theorem decT {p : Prop} [Decidable p] (h : ¬p) : (!decide p) = true := by simp [h]
theorem ctRDec : CtSOk Try.prog 86 (.fn spRDec) := FnS_of_fnS gsH fol fun ds r cs h hc => by
  unfold spRDec at h
  split at h
  case h_2 => simp at h
  rename_i b
  simp only [Option.some.injEq, Prod.mk.injEq] at h
  obtain ⟨rfl, rfl⟩ := h
  by_cases h : b.length = 32
  · have hl := bv_lt b
    rw [h, ← show p256 = 256 ^ 32 by decide] at hl
    have sb : Sm (bv b) := Sm_lt (bv_lt b) (by omega)
    by_cases hp : bv b < Pp
    · exact use_run (runRDec b) (by rw [decV, if_pos h, if_pos hp]) ⟨neqF (by omega), rfl, by omega, rfl, rfl, sb, Sm_Pp, decF hp, rfl, hl, trivial⟩
    · exact use_run (runRDec6 b) (by rw [decV, if_pos h, if_neg hp]) ⟨neqF (by omega), rfl, by omega, rfl, rfl, sb, Sm_Pp, decT hp, by omega, by omega, trivial⟩
  · exact use_run (runRDec1 b) (by rw [decV, if_neg h]) ⟨neqB (by omega), by omega, by omega, trivial⟩
def spREnc : List AV → Option (AV × List Prop)
  | [.val true [.fe x]] => some (sc (.d8 (bl x 32)), [x < p256])
  | _ => none
theorem ctREnc : CtSOk Try.prog 67 (.fn spREnc) := FnS_of_fnS gsH fol fun ds r cs h hc => by
  unfold spREnc at h
  split at h
  case h_2 => simp at h
  rename_i x
  simp only [Option.some.injEq, Prod.mk.injEq] at h
  obtain ⟨rfl, rfl⟩ := h
  exact use_run (runREnc x) (by rw [cutL_all]) ⟨hc.1, rfl, by omega, by omega, by omega, trivial⟩
def tblR3 : List (FuncId × CtS) :=
  (92, .fn spEv) :: tblH
theorem gsR3 : GSound Try.prog (upG (lookG tblR3)) := GSound_of_tbl ⟨⟨ctEv, by kernel_rfl⟩, ⟨FnS_orD ctLs3, by kernel_rfl⟩, ⟨FnS_orD ctPow, by kernel_rfl⟩, ⟨ctTrim, by kernel_rfl⟩, ⟨ctFAdd, by kernel_rfl⟩, ⟨ctFNeg, by kernel_rfl⟩, ⟨ctFMul, by kernel_rfl⟩, ⟨ctInt, by kernel_rfl⟩, ⟨FnS_orD ctFB, by kernel_rfl⟩, okE⟩
def rtTd : List Nat := [1, 2, 3, 4, 5, 6]
def rtInv (a t x : Nat) (n : Int) (m : List Int) (b : Bool) : St := ⟨slotsOf 27 [(1, sc (.ptr 0 0)), (2, sc (.ptr 1 0)), (3, sc (.bool b)), (4, sc (.ptr 2 0)), (5, sc (.ptr 3 0)), (6, sc (.i64 n))], [(0, ⟨true, [.fe a]⟩), (1, ⟨true, [.vi 16 m]⟩), (2, ⟨true, [.fe t]⟩), (3, ⟨true, [.fe x]⟩)], 16⟩
def rtOut (a t x : Nat) (n : Int) : St := ⟨slotsOf 27 [(1, sc (.ptr 0 0)), (2, sc (.ptr 1 0)), (3, sc (.bool true)), (4, sc (.ptr 2 0)), (5, sc (.ptr 3 0)), (6, sc (.i64 n))], [(0, ⟨true, [.fe a]⟩), (1, ⟨true, [.fe x]⟩), (2, ⟨true, [.fe t]⟩), (3, ⟨true, [.fe x]⟩)], 16⟩
theorem rtNext (a t x : Nat) (n : Int) : roundS Try.prog (lookG tblR3) (orcA [(4, [(1, true)]), (6, [(2, false)])]) [] 10 rtTd (bodyAt Try.prog 82 4) (rtInv a t x n z16 false) =
    some (Ex.normal, St.mk (slotsOf 27 [(1, sc (IV.ptr 0 0)), (2, sc (IV.ptr 1 0)), (3, sc (IV.bool false)), (4, sc (IV.ptr 2 0)), (5, sc (IV.ptr 3 0)), (6, sc (IV.i64 (n + (1 : Int))))]) [(0, Blk.mk true [IV.fe a]), (1, Blk.mk true [IV.vi 16 z16]), (2, Blk.mk true [IV.fe t]), (3, Blk.mk true [IV.fe (fMul x t)])] 16, [decide (n < (4 : Int)) = true, x < Pp, a < Pp, evV x a = false, x < Pp, t < Pp, inI64 (n + (1 : Int))]) := by kernel_rfl
theorem rtRet (a t x : Nat) (n : Int) : roundS Try.prog (lookG tblR3) (orcA [(4, [(1, true)]), (6, [(2, true)])]) [] 10 rtTd (bodyAt Try.prog 82 4) (rtInv a t x n z16 false) =
    some (Ex.ret, St.mk (slotsOf 27 [(1, sc (IV.ptr 0 0)), (2, sc (IV.ptr 1 0)), (3, sc (IV.bool true)), (4, sc (IV.ptr 2 0)), (5, sc (IV.ptr 3 0)), (6, sc (IV.i64 n))]) [(0, Blk.mk true [IV.fe a]), (1, Blk.mk true [IV.fe x]), (2, Blk.mk true [IV.fe t]), (3, Blk.mk true [IV.fe x])] 16, [decide (n < (4 : Int)) = true, x < Pp, a < Pp, evV x a = true]) := by kernel_rfl
theorem rtExit (a t x : Nat) (n : Int) : roundS Try.prog (lookG tblR3) (orcA [(4, [(1, false)])]) [] 10 rtTd (bodyAt Try.prog 82 4) (rtInv a t x n z16 false) =
    some (Ex.exit 0, St.mk (slotsOf 27 [(1, sc (IV.ptr 0 0)), (2, sc (IV.ptr 1 0)), (3, sc (IV.bool false)), (4, sc (IV.ptr 2 0)), (5, sc (IV.ptr 3 0)), (6, sc (IV.i64 n))]) [(0, Blk.mk true [IV.fe a]), (1, Blk.mk true [IV.vi 16 z16]), (2, Blk.mk true [IV.fe t]), (3, Blk.mk true [IV.fe x])] 16, [decide (n < (4 : Int)) = false]) := by kernel_rfl
theorem runRtR (a t x : Nat) (n : Int) : fnS Try.prog (lookG tblR3) (orcA []) [⟨4, rtTd, .ret, rtOut a t x n⟩] 10 82 [.val true [.fe a]] =
    some (AV.tup [(true, [IV.fe x]), (false, [IV.bool true])], [(0 : Int) ≤ (2 : Int), (2 : Int) < (65536 : Int), 32 = 32, 2 < Pp, Sm 14474011154664524427946373126085988481658748083205070504932198000989141204987, 32 = 32, a < Pp, Sm 7237005577332262213973186563042994240829374041602535252466099000494570602493, pw a 7237005577332262213973186563042994240829374041602535252466099000494570602493 < Pp, a < Pp, LoopTo Try.prog (bodyAt Try.prog 82 4) (St.mk (slotsOf 27 [(1, sc (IV.ptr 0 0)), (2, sc (IV.ptr 1 0)), (3, sc (IV.bool false)), (4, sc (IV.ptr 2 0)), (5, sc (IV.ptr 3 0)), (6, sc (IV.i64 (0 : Int)))]) [(0, Blk.mk true [IV.fe a]), (1, Blk.mk true [IV.vi 16 [(0 : Int), (0 : Int), (0 : Int), (0 : Int), (0 : Int), (0 : Int), (0 : Int), (0 : Int), (0 : Int), (0 : Int), (0 : Int), (0 : Int), (0 : Int), (0 : Int), (0 : Int), (0 : Int)]]), (2, Blk.mk true [IV.fe (pw 2 14474011154664524427946373126085988481658748083205070504932198000989141204987)]), (3, Blk.mk true [IV.fe (fMul (pw a 7237005577332262213973186563042994240829374041602535252466099000494570602493) a)])] 16) Ex.ret (St.mk (slotsOf 27 [(1, sc (IV.ptr 0 0)), (2, sc (IV.ptr 1 0)), (3, sc (IV.bool true)), (4, sc (IV.ptr 2 0)), (5, sc (IV.ptr 3 0)), (6, sc (IV.i64 n))]) [(0, Blk.mk true [IV.fe a]), (1, Blk.mk true [IV.fe x]), (2, Blk.mk true [IV.fe t]), (3, Blk.mk true [IV.fe x])] 16)]) := by kernel_rfl
theorem runRtE (a t x : Nat) (n : Int) : fnS Try.prog (lookG tblR3) (orcA []) [⟨4, rtTd, .exit 0, rtInv a t x n z16 false⟩] 10 82 [.val true [.fe a]] =
    some (AV.tup [(true, [IV.fe 0]), (false, [IV.bool false])], [(0 : Int) ≤ (2 : Int), (2 : Int) < (65536 : Int), 32 = 32, 2 < Pp, Sm 14474011154664524427946373126085988481658748083205070504932198000989141204987, 32 = 32, a < Pp, Sm 7237005577332262213973186563042994240829374041602535252466099000494570602493, pw a 7237005577332262213973186563042994240829374041602535252466099000494570602493 < Pp, a < Pp, LoopTo Try.prog (bodyAt Try.prog 82 4) (St.mk (slotsOf 27 [(1, sc (IV.ptr 0 0)), (2, sc (IV.ptr 1 0)), (3, sc (IV.bool false)), (4, sc (IV.ptr 2 0)), (5, sc (IV.ptr 3 0)), (6, sc (IV.i64 (0 : Int)))]) [(0, Blk.mk true [IV.fe a]), (1, Blk.mk true [IV.vi 16 [(0 : Int), (0 : Int), (0 : Int), (0 : Int), (0 : Int), (0 : Int), (0 : Int), (0 : Int), (0 : Int), (0 : Int), (0 : Int), (0 : Int), (0 : Int), (0 : Int), (0 : Int), (0 : Int)]]), (2, Blk.mk true [IV.fe (pw 2 14474011154664524427946373126085988481658748083205070504932198000989141204987)]), (3, Blk.mk true [IV.fe (fMul (pw a 7237005577332262213973186563042994240829374041602535252466099000494570602493) a)])] 16) (Ex.exit 0) (St.mk (slotsOf 27 [(1, sc (IV.ptr 0 0)), (2, sc (IV.ptr 1 0)), (3, sc (IV.bool false)), (4, sc (IV.ptr 2 0)), (5, sc (IV.ptr 3 0)), (6, sc (IV.i64 n))]) [(0, Blk.mk true [IV.fe a]), (1, Blk.mk true [IV.vi 16 z16]), (2, Blk.mk true [IV.fe t]), (3, Blk.mk true [IV.fe x])] 16), (0 : Int) ≤ (0 : Int), (0 : Int) < (65536 : Int)]) := by kernel_rfl
end Go.Proofs.Ytfhopbeieoffnaa
/- Contracts of the document's field: the root. Own work. -/
namespace Go.Proofs.Ytfhopbeieoffnaa
open Go.Ev Go.Sp Go.RowKit
set_option maxRecDepth 100000
def P58 : Nat := 7237005577332262213973186563042994240829374041602535252466099000494570602493
def P14 : Nat := 14474011154664524427946373126085988481658748083205070504932198000989141204987
def turnN : Nat := pw 2 P14
def rtX (a : Nat) : Nat → Nat
  | 0 => fMul (pw a P58) a
  | n + 1 => fMul (rtX a n) turnN
theorem rtX_lt (a : Nat) : ∀ n, rtX a n < Pp
  | 0 => fMul_lt _ _
  | _ + 1 => fMul_lt _ _
def rtS (a : Nat) : Nat → Nat → Nat × Bool
  | 0, _ => (0, false)
  | m + 1, n => if evV (rtX a n) a then (rtX a n, true) else rtS a m (n + 1)
def rtV (a : Nat) : Nat × Bool := rtS a 4 0
theorem rtS_all (a : Nat) : ∀ m n, (∀ j, n ≤ j → j < n + m → evV (rtX a j) a = false) → rtS a m n = (0, false)
  | 0, _, _ => rfl
  | m + 1, n, h => by
    rw [rtS, h n (by omega) (by omega)]
    exact rtS_all a m (n + 1) fun j h1 h2 => h j (by omega) (by omega)
theorem rtS_at (a : Nat) : ∀ m n k, n ≤ k → k < n + m → evV (rtX a k) a = true → (∀ j, n ≤ j → j < k → evV (rtX a j) a = false) → rtS a m n = (rtX a k, true)
  | 0, n, k, h1, h2, _, _ => by omega
  | m + 1, n, k, h1, h2, h3, h4 => by
    by_cases e : n = k
    · subst e; rw [rtS, h3]; rfl
    · rw [rtS, h4 n (by omega) (by omega)]
      exact rtS_at a m (n + 1) k (by omega) (by omega) h3 fun j h5 h6 => h4 j (by omega) h6
theorem first_even (a : Nat) : ∀ n, (∀ j, j < n → evV (rtX a j) a = false) ∨ ∃ m, m < n ∧ evV (rtX a m) a = true ∧ ∀ j, j < m → evV (rtX a j) a = false
  | 0 => .inl fun j h => by omega
  | n + 1 => by
    rcases first_even a n with h | ⟨m, h1, h2, h3⟩
    · cases hv : evV (rtX a n) a with
      | true => exact .inr ⟨n, by omega, hv, h⟩
      | false =>
        refine .inl fun j hj => ?_
        by_cases e : j = n
        · subst e; exact hv
        · exact h j (by omega)
    · exact .inr ⟨m, by omega, h2, h3⟩
theorem turn_lt : turnN < Pp := pw_lt _ _
theorem rtLoopR (a k : Nat) (ha : a < Pp) (hk : k < 4) (h : evV (rtX a k) a = true) (hf : ∀ j, j < k → evV (rtX a j) a = false) :
    LoopTo Try.prog (bodyAt Try.prog 82 4) (rtInv a turnN (rtX a 0) 0 z16 false) .ret (rtOut a turnN (rtX a k) (k : Nat)) := by
  refine LoopTo.intro (α := Nat) gsR3 fol (fun n => rtInv a turnN (rtX a n) (n : Nat) z16 false) (fun n => n ≤ k) (fun n => k - n) (by simp) ?_ 0 (by simp)
  intro n hn
  by_cases he : n = k
  · subst he
    exact .inr ⟨_, _, _, _, _, rtRet _ _ _ _, decide_eq_true (by omega), rtX_lt a n, ha, h, trivial⟩
  · have r0 := rtNext a turnN (rtX a n) (n : Nat)
    have e4 : ((n : Nat) : Int) + 1 = ((n + 1 : Nat) : Int) := by omega
    rw [e4] at r0
    exact .inl ⟨_, _, _, _, _, n + 1, r0, ⟨decide_eq_true (by omega), rtX_lt a n, ha, hf n (by omega), rtX_lt a n, turn_lt, by unfold inI64; omega, trivial⟩, by omega, by omega⟩
theorem rtLoopE (a : Nat) (ha : a < Pp) (hf : ∀ j, j < 4 → evV (rtX a j) a = false) :
    LoopTo Try.prog (bodyAt Try.prog 82 4) (rtInv a turnN (rtX a 0) 0 z16 false) (.exit 0) (rtInv a turnN (rtX a 4) ((4 : Nat) : Int) z16 false) := by
  refine LoopTo.intro (α := Nat) gsR3 fol (fun n => rtInv a turnN (rtX a n) (n : Nat) z16 false) (fun n => n ≤ 4) (fun n => 4 - n) (by simp) ?_ 0 (by simp)
  intro n hn
  by_cases he : n = 4
  · subst he
    exact .inr ⟨_, _, _, _, _, rtExit _ _ _ _, rfl, trivial⟩
  · have r0 := rtNext a turnN (rtX a n) (n : Nat)
    have e4 : ((n : Nat) : Int) + 1 = ((n + 1 : Nat) : Int) := by omega
    rw [e4] at r0
    exact .inl ⟨_, _, _, _, _, n + 1, r0, ⟨decide_eq_true (by omega), rtX_lt a n, ha, hf n (by omega), rtX_lt a n, turn_lt, by unfold inI64; omega, trivial⟩, by omega, by omega⟩
def spRoot : List AV → Option (AV × List Prop)
  | [.val true [.fe a]] => some (.tup [(true, [.fe (rtV a).1]), (false, [.bool (rtV a).2])], [a < Pp])
  | _ => none
theorem Sm_P14 : Sm P14 := Sm_lt (k := 40) (by decide) (by omega)
theorem Sm_P58 : Sm P58 := Sm_lt (k := 40) (by decide) (by omega)
theorem two_lt : 2 < Pp := by decide
theorem ctRoot : CtSOk Try.prog 82 (.fn spRoot) := FnS_of_fnS gsR3 fol fun ds r cs h hc => by
  unfold spRoot at h
  split at h
  case h_2 => simp at h
  rename_i a
  simp only [Option.some.injEq, Prod.mk.injEq] at h
  obtain ⟨rfl, rfl⟩ := h
  have ha := hc.1
  rcases first_even a 4 with h | ⟨k, h1, h2, h3⟩
  · exact use_run (runRtE a turnN (rtX a 4) ((4 : Nat) : Int)) (by rw [rtV, rtS_all a 4 0 fun j _ hj => h j (by omega)]) ⟨by omega, by omega, rfl, two_lt, Sm_P14, rfl, ha, Sm_P58, pw_lt _ _, ha, rtLoopE a ha h, by omega, by omega, trivial⟩
  · exact use_run (runRtR a turnN (rtX a k) (k : Nat)) (by rw [rtV, rtS_at a 4 0 k (by omega) (by omega) h2 fun j _ hj => h3 j hj]) ⟨by omega, by omega, rfl, two_lt, Sm_P14, rfl, ha, Sm_P58, pw_lt _ _, ha, rtLoopR a k ha h1 h2 h3, trivial⟩
end Go.Proofs.Ytfhopbeieoffnaa
