/- Contracts of layer 2's functions. Own work. -/
import Derived.Test.YtmdfhomeokfgiaaEvR
import Derived.Test.YtmdfhomeokfgiaaSpC
import Derived.Test.YtmdfhomeokfgiaaChecked
namespace Go.Proofs.Ytmdfhomeokfgiaa
open Go.Ev Go.Sp Go.RowKit
set_option maxRecDepth 100000

theorem fol : Try.prog.follows .mixedOrders = true := by kernel_rfl

def sp2 (f : N4 → N4 → N4 × BitVec 64) : List AV → Option (AV × List Prop)
  | [.val true [.n4 a], .val true [.n4 b]] => some (.tup [(true, [.n4 (f a b).1]), (false, [.u64 (f a b).2])], [])
  | _ => none
def addV (a b : N4) : N4 × BitVec 64 := (ofN (val a + val b), BitVec.ofNat 64 ((val a + val b) / p256))
def subV (a b : N4) : N4 × BitVec 64 := (ofN (val a + p256 - val b), if val a < val b then 1#64 else 0#64)

theorem gs0 : GSound Try.prog (upG (lookG [])) := GSound_of_tbl (l := []) trivial

theorem runAdd (a b : N4) : fnS Try.prog (lookG []) orc0 [] 10 37 [.val true [.n4 a], .val true [.n4 b]] = some (.tup [(true, [.n4 (addN a b).1]), (false, [.u64 (addN a b).2])], []) := by kernel_rfl
theorem runSub (a b : N4) : fnS Try.prog (lookG []) orc0 [] 10 38 [.val true [.n4 a], .val true [.n4 b]] = some (.tup [(true, [.n4 (subN a b).1]), (false, [.u64 (subN a b).2])], []) := by kernel_rfl

theorem ctAdd : CtSOk Try.prog 37 (.fn (sp2 addV)) := FnS_of_fnS gs0 fol fun ds r cs h _ => by
  unfold sp2 at h
  split at h
  case h_2 => simp at h
  rename_i a b
  simp only [Option.some.injEq, Prod.mk.injEq] at h
  obtain ⟨rfl, rfl⟩ := h
  refine ⟨orc0, [], 10, [], ?_, trivial⟩
  have e := runAdd a b
  rw [addN_eq] at e
  exact e
theorem ctSub : CtSOk Try.prog 38 (.fn (sp2 subV)) := FnS_of_fnS gs0 fol fun ds r cs h _ => by
  unfold sp2 at h
  split at h
  case h_2 => simp at h
  rename_i a b
  simp only [Option.some.injEq, Prod.mk.injEq] at h
  obtain ⟨rfl, rfl⟩ := h
  refine ⟨orc0, [], 10, [], ?_, trivial⟩
  have e := runSub a b
  rw [subN_eq] at e
  exact e

def spPick : List AV → Option (AV × List Prop)
  | [.val false [.u64 x], .val true [.n4 a], .val true [.n4 b]] => some (.val true [.n4 (if x = 0#64 then a else b)], [])
  | _ => none
theorem runPick (x : BitVec 64) (a b : N4) : fnS Try.prog (lookG []) orc0 [] 10 51 [.val false [.u64 x], .val true [.n4 a], .val true [.n4 b]] = some (.val true [.n4 (pickN x a b)], []) := by kernel_rfl
theorem ctPick : CtSOk Try.prog 51 (.fn spPick) := FnS_of_fnS gs0 fol fun ds r cs h _ => by
  unfold spPick at h
  split at h
  case h_2 => simp at h
  rename_i x a b
  simp only [Option.some.injEq, Prod.mk.injEq] at h
  obtain ⟨rfl, rfl⟩ := h
  refine ⟨orc0, [], 10, [], ?_, trivial⟩
  have e := runPick x a b
  rw [pickN_eq] at e
  exact e

def spBit : List AV → Option (AV × List Prop)
  | [.val true [.n4 a], .val false [.i64 i]] => some (sc (.u64 (bitN a i)), [])
  | _ => none
/-! ### The rest of a division -/
def spMod : List AV → Option (AV × List Prop)
  | [.val true [.n4 lo, .n4 hi], .val true [.n4 m]] => some (.tup [(true, [.n4 (modN lo hi m)]), (false, [.i64 (modE m)])], [])
  | _ => none
def tblMod : List (FuncId × CtS) := [(37, .fn (sp2 addV)), (38, .fn (sp2 subV)), (51, .fn spPick)]
theorem gsMod : GSound Try.prog (upG (lookG tblMod)) := GSound_of_tbl ⟨⟨ctAdd, by kernel_rfl⟩, ⟨ctSub, by kernel_rfl⟩, ⟨ctPick, by kernel_rfl⟩, trivial⟩
def modInv (lo hi m : N4) (i : Int) (L : N4) : St := ⟨slotsOf 55 [(2, sc (.ptr 0 0)), (3, sc (.ptr 1 0)), (4, sc (.ptr 2 0)), (6, sc (.ptr 3 0)), (17, sc (.i64 i))],
  [(0, ⟨true, [.vn 2 [lo, hi]]⟩), (1, ⟨true, [.n4 m]⟩), (2, ⟨true, [.n4 ⟨0, 0, 0, 0⟩]⟩), (3, ⟨true, [.n4 L]⟩)], 16⟩
def modT : List Nat := [2, 3, 4, 6, 17]
theorem modRound (lo hi m : N4) (i : Int) (L : N4) : roundS Try.prog (lookG tblMod) (orcOf [5, 7, 9, 12] [(5, [(0, true)])]) [] 0 modT (bodyAt Try.prog 49 5) (modInv lo hi m i L) =
    some (.normal, modInv lo hi m (i + 1) (stepN m L (([lo, hi].getD ((0 + ((511 - i).tdiv 64).toNat * 1) / 4) N4.zero).get ((0 + ((511 - i).tdiv 64).toNat * 1) % 4) >>> ((511 - i).tmod 64).toNat &&& 1#64)),
      [decide (i < 512) = true, inI64 (511 - i), (0 : Int) ≤ 0, 0 < 4, 0 < 4, (64 : Int) ≠ 0, inI64 ((511 - i).tdiv 64), 0 ≤ (511 - i).tdiv 64, ((511 - i).tdiv 64).toNat < 8, 0 + ((511 - i).tdiv 64).toNat * 1 < 8, (64 : Int) ≠ 0,
      0 ≤ (511 - i).tmod 64, (0 : Int) ≤ 0, 0 < 4, 0 < 4, inI64 (i + 1)]) := by kernel_rfl
theorem modExit (lo hi m : N4) (i : Int) (L : N4) : roundS Try.prog (lookG tblMod) (orcOf [5, 7, 9, 12] [(5, [(0, false)])]) [] 0 modT (bodyAt Try.prog 49 5) (modInv lo hi m i L) =
    some (.exit 0, modInv lo hi m i L, [decide (i < 512) = false]) := by kernel_rfl
theorem runMod1 (lo hi m : N4) (L : N4) : fnS Try.prog (lookG tblMod) (orcOf [] [(1, [(2, false)])]) [⟨5, modT, .exit 0, modInv lo hi m 512 L⟩] 0 49 [.val true [.vn 2 [lo, hi]], .val true [.n4 m]] =
    some (.tup [(true, [.n4 L]), (false, [.i64 0])], [((m.w0 == 0#64 && (m.w1 == 0#64 && (m.w2 == 0#64 && m.w3 == 0#64))) && true) = false, LoopTo Try.prog (bodyAt Try.prog 49 5) (modInv lo hi m 0 ⟨0, 0, 0, 0⟩) (.exit 0) (modInv lo hi m 512 L)]) := by kernel_rfl
theorem runMod0 (lo hi m : N4) : fnS Try.prog (lookG tblMod) (orcOf [] [(1, [(2, true)])]) [] 0 49 [.val true [.vn 2 [lo, hi]], .val true [.n4 m]] =
    some (.tup [(true, [.n4 ⟨0, 0, 0, 0⟩]), (false, [.i64 8])], [((m.w0 == 0#64 && (m.w1 == 0#64 && (m.w2 == 0#64 && m.w3 == 0#64))) && true) = true]) := by kernel_rfl

theorem zero4 (m : N4) : ((m.w0 == 0#64 && (m.w1 == 0#64 && (m.w2 == 0#64 && m.w3 == 0#64))) && true) = decide (val m = 0) := by
  rw [Bool.eq_iff_iff]
  simp only [Bool.and_eq_true, beq_iff_eq, and_true, decide_eq_true_eq]
  constructor
  · rintro ⟨h0, h1, h2, h3⟩
    have : m = ⟨0, 0, 0, 0⟩ := N4_ext h0 h1 h2 h3
    rw [this]; rfl
  · intro h
    have : m = ⟨0, 0, 0, 0⟩ := val_inj (h.trans rfl)
    rw [this]
    exact ⟨rfl, rfl, rfl, rfl⟩

theorem modLoop (lo hi m : N4) (hm : val m ≠ 0) : LoopTo Try.prog (bodyAt Try.prog 49 5) (modInv lo hi m 0 ⟨0, 0, 0, 0⟩) (.exit 0) (modInv lo hi m 512 (ofN (wide lo hi % val m))) := by
  obtain ⟨n0, hn0⟩ : ∃ n : Nat, n = 512 := ⟨_, rfl⟩
  refine LoopTo.intro (α := Nat × N4) gsMod fol (fun a => modInv lo hi m a.1 a.2) (fun a => ∃ n, n + a.1 = 512 ∧ val a.2 = wide lo hi / 2 ^ n % val m) (fun a => 512 - a.1) (by simp) ?_ (0, ⟨0, 0, 0, 0⟩) ⟨n0, by omega, wide_top lo hi _ (k := 256) (by omega) rfl⟩
  rintro ⟨i, L⟩ ⟨n, hn, hL⟩
  simp only at hn hL
  cases n with
  | succ k =>
    left
    have e0 : (511 : Int) - (i : Int) = (k : Int) := by omega
    have e1 : (511 - (i : Int)).tdiv 64 = ((k / 64 : Nat) : Int) := by rw [e0]; exact (Int.ofNat_tdiv _ 64).symm
    have e2 : (511 - (i : Int)).tmod 64 = ((k % 64 : Nat) : Int) := by rw [e0]; exact (Int.ofNat_tmod _ 64).symm
    have hb := wordAt_bit lo hi k (by omega)
    have hbit : ([lo, hi].getD ((0 + ((511 - (i : Int)).tdiv 64).toNat * 1) / 4) N4.zero).get ((0 + ((511 - (i : Int)).tdiv 64).toNat * 1) % 4) >>> ((511 - (i : Int)).tmod 64).toNat &&& 1#64 = wordAt lo hi (k / 64) >>> (k % 64) &&& 1#64 := by
      rw [e1, e2]
      simp only [Int.toNat_natCast, Nat.zero_add, Nat.mul_one]
      rfl
    refine ⟨_, _, _, _, _, (i + 1, stepN m L (([lo, hi].getD ((0 + ((511 - (i : Int)).tdiv 64).toNat * 1) / 4) N4.zero).get ((0 + ((511 - (i : Int)).tdiv 64).toNat * 1) % 4) >>> ((511 - (i : Int)).tmod 64).toNat &&& 1#64)), modRound lo hi m i L, ?_, ⟨k, by simp; omega, ?_⟩, by simp; omega⟩
    · simp only [AllP, inI64, e1, e2, decide_eq_true_eq, Int.toNat_natCast]
      refine ⟨by omega, by omega, by omega, by omega, by omega, by omega, by omega, by omega, by omega, by omega, by omega, by omega, by omega, by omega, by omega, by omega, trivial⟩
    · show val (stepN m L _) = _
      rw [hbit]
      have hlt : val L < val m := by rw [hL]; exact Nat.mod_lt _ (by omega)
      rw [stepN_ok m L _ (by rw [hb]; omega) hlt, hb, hL]
      exact next_bit _ _ _
  | zero =>
    right
    have : i = 512 := by omega
    subst this
    have : L = ofN (wide lo hi % val m) := by
      apply val_inj
      rw [val_ofN, Nat.mod_eq_of_lt (Nat.lt_trans (Nat.mod_lt _ (by omega)) (val_lt m)), hL]
      simp
    subst this
    exact ⟨_, _, _, _, _, modExit lo hi m 512 _, by simp, trivial⟩

theorem DV_same {w : World} {g : Bool} {l m : List IV} {v : Value} (h : ∀ vs, DLs w l vs → DLs w m vs) (hv : DV w (.val g l) v) : DV w (.val g m) v := by
  obtain ⟨vs, h1, h2⟩ := hv
  exact ⟨vs, h vs h1, h2⟩

theorem callsMod (lo hi m : N4) (w : World) (vals : List Value) (hv : F2 (DV w) [.val true [.vn 2 [lo, hi]], .val true [.n4 m]] vals) :
    Calls Try.prog 49 vals.toArray w fun e w' => ∃ v, e = .returned v ∧ Below w.heap.size w w' ∧ ResOk w.heap.size w' (.tup [(true, [.n4 (modN lo hi m)]), (false, [.i64 (modE m)])]) v := by
  by_cases hm : val m = 0
  · have e := runMod0 lo hi m
    have h1 : modN lo hi m = ⟨0, 0, 0, 0⟩ := by simp only [modN, hm, if_true]
    have h2 : modE m = 8 := by simp only [modE, hm, if_true]
    rw [h1, h2]
    exact calls_of_fnS gsMod fol e ⟨by rw [zero4]; simpa using hm, trivial⟩ w vals hv
  · have e := runMod1 lo hi m (ofN (wide lo hi % val m))
    have h1 : modN lo hi m = ofN (wide lo hi % val m) := by simp only [modN, hm, if_false]
    have h2 : modE m = 0 := by simp only [modE, hm, if_false]
    rw [h1, h2]
    exact calls_of_fnS gsMod fol e ⟨by rw [zero4]; simpa using hm, modLoop lo hi m hm, trivial⟩ w vals hv

theorem ctMod : CtSOk Try.prog 49 (.fn spMod) := FnS_intro fun ds r cs h _ w vals hv => by
  unfold spMod at h
  split at h
  case h_2 => simp at h
  rename_i lo hi m
  simp only [Option.some.injEq, Prod.mk.injEq] at h
  obtain ⟨rfl, rfl⟩ := h
  match vals, hv with
  | v :: vs, ⟨h1, h2⟩ =>
    refine callsMod lo hi m w (v :: vs) ⟨DV_same (fun us hu => ?_) h1, h2⟩
    obtain ⟨a, b, rfl, ha, c, d, rfl, hc, rfl⟩ := hu
    simp only [DCells, PCells, Option.some.injEq] at ha hc
    subst ha hc
    exact ⟨_, [], (List.append_nil _).symm, by simp [DCells, PCells], rfl⟩

end Go.Proofs.Ytmdfhomeokfgiaa
