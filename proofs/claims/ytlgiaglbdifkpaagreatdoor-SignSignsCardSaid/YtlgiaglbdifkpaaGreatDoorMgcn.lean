/- Texts put together: CtA CtB CtD CtE SpI CtF CtN. Own work. -/
import Derived.Test.YtlgiaglbdifkpaaGreatDoorMgcm
import Derived.Test.YtlgiaglbdifkpaaGreatDoorChecked
/- Contracts of layer 2's functions. Own work. -/
namespace Go.Proofs.YtlgiaglbdifkpaaGreatDoor
open Go.Ev Go.Sp Go.RowKit
set_option maxRecDepth 100000

theorem fol : Tryz.prog.follows .mixedOrders = true := by kernel_rfl

def sp2 (f : N4 → N4 → N4 × BitVec 64) : List AV → Option (AV × List Prop)
  | [.val true [.n4 a], .val true [.n4 b]] => some (.tup [(true, [.n4 (f a b).1]), (false, [.u64 (f a b).2])], [])
  | _ => none
def addV (a b : N4) : N4 × BitVec 64 := (ofN (val a + val b), BitVec.ofNat 64 ((val a + val b) / p256))
def subV (a b : N4) : N4 × BitVec 64 := (ofN (val a + p256 - val b), if val a < val b then 1#64 else 0#64)

theorem gs0 : GSound Tryz.prog (upG (lookG [])) := GSound_of_tbl (l := []) trivial

theorem runAdd (a b : N4) : fnS Tryz.prog (lookG []) orc0 [] 10 81 [.val true [.n4 a], .val true [.n4 b]] = some (.tup [(true, [.n4 (addN a b).1]), (false, [.u64 (addN a b).2])], []) := by kernel_rfl
theorem runSub (a b : N4) : fnS Tryz.prog (lookG []) orc0 [] 10 53 [.val true [.n4 a], .val true [.n4 b]] = some (.tup [(true, [.n4 (subN a b).1]), (false, [.u64 (subN a b).2])], []) := by kernel_rfl

theorem ctAdd : CtSOk Tryz.prog 81 (.fn (sp2 addV)) := FnS_of_fnS gs0 fol fun ds r cs h _ => by
  unfold sp2 at h
  split at h
  case h_2 => simp at h
  rename_i a b
  simp only [Option.some.injEq, Prod.mk.injEq] at h
  obtain ⟨rfl, rfl⟩ := h
  refine ⟨orc0, [], 10, [], ?_, trivial⟩
  have e := runAdd a b
  rw [addN_eq] at e
  exact e
theorem ctSub : CtSOk Tryz.prog 53 (.fn (sp2 subV)) := FnS_of_fnS gs0 fol fun ds r cs h _ => by
  unfold sp2 at h
  split at h
  case h_2 => simp at h
  rename_i a b
  simp only [Option.some.injEq, Prod.mk.injEq] at h
  obtain ⟨rfl, rfl⟩ := h
  refine ⟨orc0, [], 10, [], ?_, trivial⟩
  have e := runSub a b
  rw [subN_eq] at e
  exact e

def spPick : List AV → Option (AV × List Prop)
  | [.val false [.u64 x], .val true [.n4 a], .val true [.n4 b]] => some (.val true [.n4 (if x = 0#64 then a else b)], [])
  | _ => none
theorem runPick (x : BitVec 64) (a b : N4) : fnS Tryz.prog (lookG []) orc0 [] 10 62 [.val false [.u64 x], .val true [.n4 a], .val true [.n4 b]] = some (.val true [.n4 (pickN x a b)], []) := by kernel_rfl
theorem ctPick : CtSOk Tryz.prog 62 (.fn spPick) := FnS_of_fnS gs0 fol fun ds r cs h _ => by
  unfold spPick at h
  split at h
  case h_2 => simp at h
  rename_i x a b
  simp only [Option.some.injEq, Prod.mk.injEq] at h
  obtain ⟨rfl, rfl⟩ := h
  refine ⟨orc0, [], 10, [], ?_, trivial⟩
  have e := runPick x a b
  rw [pickN_eq] at e
  exact e

def spBit : List AV → Option (AV × List Prop)
  | [.val true [.n4 a], .val false [.i64 i]] => some (sc (.u64 (bitN a i)), [])
  | _ => none
theorem runBit0 (a : N4) (i : Int) : fnS Tryz.prog (lookG []) (orcOf [1, 3] [(1, [(1, false), (4, false)])]) [] 10 103 [.val true [.n4 a], .val false [.i64 i]] =
    some (sc (.u64 (a.get (0 + (i.tdiv 64).toNat * 1) >>> (i.tmod 64).toNat &&& 1#64)), [decide (i < 0) = false, decide (255 < i) = false, (64 : Int) ≠ 0, inI64 (i.tdiv 64), 0 ≤ i.tdiv 64, (i.tdiv 64).toNat < 4, 0 + (i.tdiv 64).toNat * 1 < 4, (64 : Int) ≠ 0, 0 ≤ i.tmod 64]) := by kernel_rfl
theorem runBit1 (a : N4) (i : Int) : fnS Tryz.prog (lookG []) (orcOf [1, 3] [(1, [(1, true), (4, false)])]) [] 10 103 [.val true [.n4 a], .val false [.i64 i]] = some (sc (.u64 0#64), [decide (i < 0) = true]) := by kernel_rfl
theorem runBit2 (a : N4) (i : Int) : fnS Tryz.prog (lookG []) (orcOf [1, 3] [(1, [(1, false), (4, true)])]) [] 10 103 [.val true [.n4 a], .val false [.i64 i]] = some (sc (.u64 0#64), [decide (i < 0) = false, decide (255 < i) = true]) := by kernel_rfl
theorem ctBit : CtSOk Tryz.prog 103 (.fn spBit) := FnS_of_fnS gs0 fol fun ds r cs h _ => by
  unfold spBit at h
  split at h
  case h_2 => simp at h
  rename_i a i
  simp only [Option.some.injEq, Prod.mk.injEq] at h
  obtain ⟨rfl, rfl⟩ := h
  by_cases h1 : i < 0
  · refine use_run (runBit1 a i) ?_ ⟨by simpa using h1, trivial⟩
    simp [bitN, h1]
  · by_cases h2 : 255 < i
    · refine use_run (runBit2 a i) ?_ ⟨by simpa using h1, by simpa using h2, trivial⟩
      simp [bitN, h2]
    · obtain ⟨k, rfl⟩ := Int.eq_ofNat_of_zero_le (Int.not_lt.1 h1)
      have hk : k ≤ 255 := by omega
      have e3 : ((k : Int)).tdiv 64 = ((k / 64 : Nat) : Int) := (Int.ofNat_tdiv k 64).symm
      have e4 : ((k : Int)).tmod 64 = ((k % 64 : Nat) : Int) := (Int.ofNat_tmod k 64).symm
      refine use_run (runBit0 a k) ?_ ?_
      · have e5 := bitN_in a k hk
        have e6 : 0 + ((k : Int).tdiv 64).toNat * 1 = k / 64 := by rw [e3, Int.toNat_natCast]; omega
        have e7 : ((k : Int).tmod 64).toNat = k % 64 := by rw [e4, Int.toNat_natCast]
        rw [e6, e7, e5]
        simp only [bitN, Int.toNat_natCast]
        rw [if_neg (by omega)]
      · simp only [AllP, inI64, e3, e4, decide_eq_false_iff_not, Int.toNat_natCast]
        refine ⟨by omega, by omega, by omega, by omega, by omega, by omega, by omega, by omega, by omega, trivial⟩

/-! ### The rest of a division -/
def spMod : List AV → Option (AV × List Prop)
  | [.val true [.n4 lo, .n4 hi], .val true [.n4 m]] => some (.tup [(true, [.n4 (modN lo hi m)]), (false, [.i64 (modE m)])], [])
  | _ => none
def tblMod : List (FuncId × CtS) := [(81, .fn (sp2 addV)), (53, .fn (sp2 subV)), (62, .fn spPick)]
theorem gsMod : GSound Tryz.prog (upG (lookG tblMod)) := GSound_of_tbl ⟨⟨ctAdd, by kernel_rfl⟩, ⟨ctSub, by kernel_rfl⟩, ⟨ctPick, by kernel_rfl⟩, trivial⟩
def modInv (lo hi m : N4) (i : Int) (L : N4) : St := ⟨slotsOf 55 [(2, sc (.ptr 0 0)), (3, sc (.ptr 1 0)), (4, sc (.ptr 2 0)), (6, sc (.ptr 3 0)), (17, sc (.i64 i))],
  [(0, ⟨true, [.vn 2 [lo, hi]]⟩), (1, ⟨true, [.n4 m]⟩), (2, ⟨true, [.n4 ⟨0, 0, 0, 0⟩]⟩), (3, ⟨true, [.n4 L]⟩)], 16⟩
def modT : List Nat := [2, 3, 4, 6, 17]
theorem modRound (lo hi m : N4) (i : Int) (L : N4) : roundS Tryz.prog (lookG tblMod) (orcOf [5, 7, 9, 12] [(5, [(0, true)])]) [] 0 modT (bodyAt Tryz.prog 116 5) (modInv lo hi m i L) =
    some (.normal, modInv lo hi m (i + 1) (stepN m L (([lo, hi].getD ((0 + ((511 - i).tdiv 64).toNat * 1) / 4) N4.zero).get ((0 + ((511 - i).tdiv 64).toNat * 1) % 4) >>> ((511 - i).tmod 64).toNat &&& 1#64)),
      [decide (i < 512) = true, inI64 (511 - i), (0 : Int) ≤ 0, 0 < 4, 0 < 4, (64 : Int) ≠ 0, inI64 ((511 - i).tdiv 64), 0 ≤ (511 - i).tdiv 64, ((511 - i).tdiv 64).toNat < 8, 0 + ((511 - i).tdiv 64).toNat * 1 < 8, (64 : Int) ≠ 0,
      0 ≤ (511 - i).tmod 64, (0 : Int) ≤ 0, 0 < 4, 0 < 4, inI64 (i + 1)]) := by kernel_rfl
theorem modExit (lo hi m : N4) (i : Int) (L : N4) : roundS Tryz.prog (lookG tblMod) (orcOf [5, 7, 9, 12] [(5, [(0, false)])]) [] 0 modT (bodyAt Tryz.prog 116 5) (modInv lo hi m i L) =
    some (.exit 0, modInv lo hi m i L, [decide (i < 512) = false]) := by kernel_rfl
theorem runMod1 (lo hi m : N4) (L : N4) : fnS Tryz.prog (lookG tblMod) (orcOf [] [(1, [(2, false)])]) [⟨5, modT, .exit 0, modInv lo hi m 512 L⟩] 0 116 [.val true [.vn 2 [lo, hi]], .val true [.n4 m]] =
    some (.tup [(true, [.n4 L]), (false, [.i64 0])], [((m.w0 == 0#64 && (m.w1 == 0#64 && (m.w2 == 0#64 && m.w3 == 0#64))) && true) = false, LoopTo Tryz.prog (bodyAt Tryz.prog 116 5) (modInv lo hi m 0 ⟨0, 0, 0, 0⟩) (.exit 0) (modInv lo hi m 512 L)]) := by kernel_rfl
theorem runMod0 (lo hi m : N4) : fnS Tryz.prog (lookG tblMod) (orcOf [] [(1, [(2, true)])]) [] 0 116 [.val true [.vn 2 [lo, hi]], .val true [.n4 m]] =
    some (.tup [(true, [.n4 ⟨0, 0, 0, 0⟩]), (false, [.i64 8])], [((m.w0 == 0#64 && (m.w1 == 0#64 && (m.w2 == 0#64 && m.w3 == 0#64))) && true) = true]) := by kernel_rfl

theorem zero4 (m : N4) : ((m.w0 == 0#64 && (m.w1 == 0#64 && (m.w2 == 0#64 && m.w3 == 0#64))) && true) = decide (val m = 0) := by
  rw [Bool.eq_iff_iff]
  simp only [Bool.and_eq_true, beq_iff_eq, and_true, decide_eq_true_eq]
  constructor
  · rintro ⟨h0, h1, h2, h3⟩
    have : m = ⟨0, 0, 0, 0⟩ := N4_ext h0 h1 h2 h3
    rw [this]; rfl
  · intro h
    have : m = ⟨0, 0, 0, 0⟩ := val_inj (h.trans rfl)
    rw [this]
    exact ⟨rfl, rfl, rfl, rfl⟩

theorem modLoop (lo hi m : N4) (hm : val m ≠ 0) : LoopTo Tryz.prog (bodyAt Tryz.prog 116 5) (modInv lo hi m 0 ⟨0, 0, 0, 0⟩) (.exit 0) (modInv lo hi m 512 (ofN (wide lo hi % val m))) := by
  obtain ⟨n0, hn0⟩ : ∃ n : Nat, n = 512 := ⟨_, rfl⟩
  refine LoopTo.intro (α := Nat × N4) gsMod fol (fun a => modInv lo hi m a.1 a.2) (fun a => ∃ n, n + a.1 = 512 ∧ val a.2 = wide lo hi / 2 ^ n % val m) (fun a => 512 - a.1) (by simp) ?_ (0, ⟨0, 0, 0, 0⟩) ⟨n0, by omega, wide_top lo hi _ (k := 256) (by omega) rfl⟩
  rintro ⟨i, L⟩ ⟨n, hn, hL⟩
  simp only at hn hL
  cases n with
  | succ k =>
    left
    have e0 : (511 : Int) - (i : Int) = (k : Int) := by omega
    have e1 : (511 - (i : Int)).tdiv 64 = ((k / 64 : Nat) : Int) := by rw [e0]; exact (Int.ofNat_tdiv _ 64).symm
    have e2 : (511 - (i : Int)).tmod 64 = ((k % 64 : Nat) : Int) := by rw [e0]; exact (Int.ofNat_tmod _ 64).symm
    have hb := wordAt_bit lo hi k (by omega)
    have hbit : ([lo, hi].getD ((0 + ((511 - (i : Int)).tdiv 64).toNat * 1) / 4) N4.zero).get ((0 + ((511 - (i : Int)).tdiv 64).toNat * 1) % 4) >>> ((511 - (i : Int)).tmod 64).toNat &&& 1#64 = wordAt lo hi (k / 64) >>> (k % 64) &&& 1#64 := by
      rw [e1, e2]
      simp only [Int.toNat_natCast, Nat.zero_add, Nat.mul_one]
      rfl
    refine ⟨_, _, _, _, _, (i + 1, stepN m L (([lo, hi].getD ((0 + ((511 - (i : Int)).tdiv 64).toNat * 1) / 4) N4.zero).get ((0 + ((511 - (i : Int)).tdiv 64).toNat * 1) % 4) >>> ((511 - (i : Int)).tmod 64).toNat &&& 1#64)), modRound lo hi m i L, ?_, ⟨k, by simp; omega, ?_⟩, by simp; omega⟩
    · simp only [AllP, inI64, e1, e2, decide_eq_true_eq, Int.toNat_natCast]
      refine ⟨by omega, by omega, by omega, by omega, by omega, by omega, by omega, by omega, by omega, by omega, by omega, by omega, by omega, by omega, by omega, by omega, trivial⟩
    · show val (stepN m L _) = _
      rw [hbit]
      have hlt : val L < val m := by rw [hL]; exact Nat.mod_lt _ (by omega)
      rw [stepN_ok m L _ (by rw [hb]; omega) hlt, hb, hL]
      exact next_bit _ _ _
  | zero =>
    right
    have : i = 512 := by omega
    subst this
    have : L = ofN (wide lo hi % val m) := by
      apply val_inj
      rw [val_ofN, Nat.mod_eq_of_lt (Nat.lt_trans (Nat.mod_lt _ (by omega)) (val_lt m)), hL]
      simp
    subst this
    exact ⟨_, _, _, _, _, modExit lo hi m 512 _, by simp, trivial⟩

theorem DV_same {w : World} {g : Bool} {l m : List IV} {v : Value} (h : ∀ vs, DLs w l vs → DLs w m vs) (hv : DV w (.val g l) v) : DV w (.val g m) v := by
  obtain ⟨vs, h1, h2⟩ := hv
  exact ⟨vs, h vs h1, h2⟩

theorem callsMod (lo hi m : N4) (w : World) (vals : List Value) (hv : F2 (DV w) [.val true [.vn 2 [lo, hi]], .val true [.n4 m]] vals) :
    CallsG Tryz.prog 116 vals.toArray w fun e w' => ∃ v, e = .returned v ∧ Below w.heap.size w w' ∧ ResOk w.heap.size w' (.tup [(true, [.n4 (modN lo hi m)]), (false, [.i64 (modE m)])]) v := by
  by_cases hm : val m = 0
  · have e := runMod0 lo hi m
    have h1 : modN lo hi m = ⟨0, 0, 0, 0⟩ := by simp only [modN, hm, if_true]
    have h2 : modE m = 8 := by simp only [modE, hm, if_true]
    rw [h1, h2]
    exact calls_of_fnS gsMod fol e ⟨by rw [zero4]; simpa using hm, trivial⟩ w vals hv
  · have e := runMod1 lo hi m (ofN (wide lo hi % val m))
    have h1 : modN lo hi m = ofN (wide lo hi % val m) := by simp only [modN, hm, if_false]
    have h2 : modE m = 0 := by simp only [modE, hm, if_false]
    rw [h1, h2]
    exact calls_of_fnS gsMod fol e ⟨by rw [zero4]; simpa using hm, modLoop lo hi m hm, trivial⟩ w vals hv

theorem ctMod : CtSOk Tryz.prog 116 (.fn spMod) := FnS_intro fun ds r cs h _ w vals hv => by
  unfold spMod at h
  split at h
  case h_2 => simp at h
  rename_i lo hi m
  simp only [Option.some.injEq, Prod.mk.injEq] at h
  obtain ⟨rfl, rfl⟩ := h
  match vals, hv with
  | v :: vs, ⟨h1, h2⟩ =>
    refine callsMod lo hi m w (v :: vs) ⟨DV_same (fun us hu => ?_) h1, h2⟩
    obtain ⟨a, b, rfl, ha, c, d, rfl, hc, rfl⟩ := hu
    simp only [DCells, PCells, Option.some.injEq] at ha hc
    subst ha hc
    exact ⟨_, [], (List.append_nil _).symm, by simp [DCells, PCells], rfl⟩

end Go.Proofs.YtlgiaglbdifkpaaGreatDoor
/- Contracts of products and comparisons. Own work. -/
namespace Go.Proofs.YtlgiaglbdifkpaaGreatDoor
open Go.Ev Go.Sp Go.RowKit
set_option maxRecDepth 100000

def spHalves : List AV → Option (AV × List Prop)
  | [.val true [.n4 a]] => some (.val true [.n4 (halvesN a).1, .n4 (halvesN a).2], [])
  | _ => none
theorem runHalves (a : N4) : fnS Tryz.prog (lookG []) orc0 [] 10 117 [.val true [.n4 a]] = some (.val true [.n4 (halvesN a).1, .n4 (halvesN a).2], []) := by kernel_rfl
theorem ctHalves : CtSOk Tryz.prog 117 (.fn spHalves) := FnS_of_fnS gs0 fol fun ds r cs h _ => by
  unfold spHalves at h
  split at h
  case h_2 => simp at h
  rename_i a
  simp only [Option.some.injEq, Prod.mk.injEq] at h
  obtain ⟨rfl, rfl⟩ := h
  exact use_run (runHalves a) rfl trivial

def tblMul : List (FuncId × CtS) := [(117, .fn spHalves)]
theorem gsMul : GSound Tryz.prog (upG (lookG tblMul)) := GSound_of_tbl ⟨⟨ctHalves, by kernel_rfl⟩, trivial⟩
def Qw (q : Q) : List (BitVec 64) := [q.a.w0, q.a.w1, q.a.w2, q.a.w3, q.b.w0, q.b.w1, q.b.w2, q.b.w3, q.c.w0, q.c.w1, q.c.w2, q.c.w3, q.d.w0, q.d.w1, q.d.w2, q.d.w3]
def mulInv (x y : N4) (i : Int) (q : Q) : St := ⟨slotsOf 71 [(4, sc (.ptr 0 0)), (5, sc (.ptr 1 0)), (6, sc (.ptr 2 0)), (7, sc (.ptr 3 0)), (18, sc (.i64 i))],
  [(0, ⟨true, [.n4 ⟨0, 0, 0, 0⟩, .n4 ⟨0, 0, 0, 0⟩]⟩), (1, ⟨true, [.n4 (halvesN x).1, .n4 (halvesN x).2]⟩), (2, ⟨true, [.n4 (halvesN y).1, .n4 (halvesN y).2]⟩), (3, ⟨true, [.v64 16 (Qw q)]⟩)], 16⟩
def mulTd : List Nat := [4, 5, 6, 7, 18]
noncomputable def mulR (x y : N4) (i : Int) (q : Q) : Option (Ex × St × List Prop) := roundS Tryz.prog (lookG tblMul) orc0 [] 10 mulTd (bodyAt Tryz.prog 83 4) (mulInv x y i q)
theorem mulRound0 (x y : N4) (q : Q) : mulR x y 0 q = some (.normal, mulInv x y 1 (rowQ (halfW x 0) (halfW y) 0 q), []) := by kernel_rfl
theorem mulRound1 (x y : N4) (q : Q) : mulR x y 1 q = some (.normal, mulInv x y 2 (rowQ (halfW x 1) (halfW y) 1 q), []) := by kernel_rfl
theorem mulRound2 (x y : N4) (q : Q) : mulR x y 2 q = some (.normal, mulInv x y 3 (rowQ (halfW x 2) (halfW y) 2 q), []) := by kernel_rfl
theorem mulRound3 (x y : N4) (q : Q) : mulR x y 3 q = some (.normal, mulInv x y 4 (rowQ (halfW x 3) (halfW y) 3 q), []) := by kernel_rfl
theorem mulRound4 (x y : N4) (q : Q) : mulR x y 4 q = some (.normal, mulInv x y 5 (rowQ (halfW x 4) (halfW y) 4 q), []) := by kernel_rfl
theorem mulRound5 (x y : N4) (q : Q) : mulR x y 5 q = some (.normal, mulInv x y 6 (rowQ (halfW x 5) (halfW y) 5 q), []) := by kernel_rfl
theorem mulRound6 (x y : N4) (q : Q) : mulR x y 6 q = some (.normal, mulInv x y 7 (rowQ (halfW x 6) (halfW y) 6 q), []) := by kernel_rfl
theorem mulRound7 (x y : N4) (q : Q) : mulR x y 7 q = some (.normal, mulInv x y 8 (rowQ (halfW x 7) (halfW y) 7 q), []) := by kernel_rfl
theorem mulExit (x y : N4) (q : Q) : mulR x y 8 q = some (.exit 0, mulInv x y 8 q, []) := by kernel_rfl
theorem runMul (x y : N4) (q : Q) : fnS Tryz.prog (lookG tblMul) orc0 [⟨4, mulTd, .exit 0, mulInv x y 8 q⟩] 10 83 [.val true [.n4 x], .val true [.n4 y]] =
    some (.val true [.n4 (outQ q).1, .n4 (outQ q).2], [LoopTo Tryz.prog (bodyAt Tryz.prog 83 4) (mulInv x y 0 Q.zero) (.exit 0) (mulInv x y 8 q)]) := by kernel_rfl

theorem mulLoop (x y : N4) : LoopTo Tryz.prog (bodyAt Tryz.prog 83 4) (mulInv x y 0 Q.zero) (.exit 0) (mulInv x y 8 (rows x y 8)) := by
  refine LoopTo.intro (α := Nat) gsMul fol (fun i => mulInv x y (i : Nat) (rows x y i)) (fun i => i ≤ 8) (fun i => 8 - i) (by simp) ?_ 0 (by omega)
  intro i hi
  have step : ∀ n : Nat, n < 8 → mulR x y n (rows x y n) = some (.normal, mulInv x y ((n + 1 : Nat) : Int) (rows x y (n + 1)), []) → (∃ orc sums fuel td cs a', roundS Tryz.prog (lookG tblMul) orc sums fuel td (bodyAt Tryz.prog 83 4) (mulInv x y (n : Nat) (rows x y n)) = some (.normal, mulInv x y ((a' : Nat) : Int) (rows x y a'), cs) ∧ AllP cs ∧ a' ≤ 8 ∧ 8 - a' < 8 - n) :=
    fun n hn h => ⟨_, _, _, _, _, n + 1, h, trivial, by omega, by omega⟩
  match i, hi with
  | 0, _ => exact .inl (step 0 (by omega) (mulRound0 x y _))
  | 1, _ => exact .inl (step 1 (by omega) (mulRound1 x y _))
  | 2, _ => exact .inl (step 2 (by omega) (mulRound2 x y _))
  | 3, _ => exact .inl (step 3 (by omega) (mulRound3 x y _))
  | 4, _ => exact .inl (step 4 (by omega) (mulRound4 x y _))
  | 5, _ => exact .inl (step 5 (by omega) (mulRound5 x y _))
  | 6, _ => exact .inl (step 6 (by omega) (mulRound6 x y _))
  | 7, _ => exact .inl (step 7 (by omega) (mulRound7 x y _))
  | 8, _ => exact .inr ⟨_, _, _, _, _, mulExit x y _, trivial⟩

def spMul : List AV → Option (AV × List Prop)
  | [.val true [.n4 a], .val true [.n4 b]] => some (.val true [.n4 (mulV a b).1, .n4 (mulV a b).2], [])
  | _ => none
theorem ctMul : CtSOk Tryz.prog 83 (.fn spMul) := FnS_of_fnS gsMul fol fun ds r cs h _ => by
  unfold spMul at h
  split at h
  case h_2 => simp at h
  rename_i a b
  simp only [Option.some.injEq, Prod.mk.injEq] at h
  obtain ⟨rfl, rfl⟩ := h
  refine use_run (runMul a b (rows a b 8)) ?_ ⟨mulLoop a b, trivial⟩
  rw [mul_ok]

/-! ### Which of two is more -/
end Go.Proofs.YtlgiaglbdifkpaaGreatDoor
/- Contracts of the document's digit lists. Own work. -/
namespace Go.Proofs.YtlgiaglbdifkpaaGreatDoor
open Go.Ev Go.Sp Go.RowKit
set_option maxRecDepth 100000

theorem cutL_all {α : Type} (l : List α) : cutL l 0 l.length l.length = l := by simp [cutL]
theorem cutL_eqn {α : Type} {l : List α} {n : Nat} (h : n = l.length) : cutL l 0 n l.length = l := by subst h; exact cutL_all l

def spAt : List AV → Option (AV × List Prop)
  | [.val false [.dI l], .val false [.i64 i]] => some (sc (.i64 (l.getD i.toNat 0)), [0 ≤ i])
  | _ => none
theorem runAt1 (l : List Int) (i : Int) : fnS Tryz.prog (lookG []) (orcOf [1, 2] [(1, [(3, true)])]) [] 10 88 [.val false [.dI l], .val false [.i64 i]] =
    some (sc (.i64 (l.getD (0 + i.toNat * 1) 0)), [decide (i < (l.length : Int)) = true, 0 ≤ i, i.toNat < l.length, 0 + i.toNat * 1 < l.length]) := by kernel_rfl
theorem runAt0 (l : List Int) (i : Int) : fnS Tryz.prog (lookG []) (orcOf [1, 2] [(1, [(3, false)])]) [] 10 88 [.val false [.dI l], .val false [.i64 i]] =
    some (sc (.i64 0), [decide (i < (l.length : Int)) = false]) := by kernel_rfl
theorem ctAt : CtSOk Tryz.prog 88 (.fn spAt) := FnS_of_fnS gs0 fol fun ds r cs h hc => by
  unfold spAt at h
  split at h
  case h_2 => simp at h
  rename_i l i
  simp only [Option.some.injEq, Prod.mk.injEq] at h
  obtain ⟨rfl, rfl⟩ := h
  have hi : 0 ≤ i := hc.1
  by_cases hlt : i < (l.length : Int)
  · refine use_run (runAt1 l i) (by simp) ⟨by simpa using hlt, hi, by omega, by omega, trivial⟩
  · refine use_run (runAt0 l i) ?_ ⟨by simpa using hlt, trivial⟩
    have : l.length ≤ i.toNat := by omega
    simp [List.getD_eq_getElem?_getD, List.getElem?_eq_none this]

/-! ### Sum -/
def tblAt : List (FuncId × CtS) := [(88, .fn spAt), (97, .pre preTrim)]
theorem gsAt : GSound Tryz.prog (upG (lookG tblAt)) := GSound_of_tbl ⟨⟨ctAt, by kernel_rfl⟩, ⟨ctTrim, by kernel_rfl⟩, trivial⟩
def sumInv (l m : List Int) (n : Nat) (out : List Int) (i c : Int) : St := ⟨slotsOf 36 [(0, sc (.sl 0 0 l.length)), (1, sc (.sl 1 0 m.length)), (5, sc (.sl 2 0 n)), (6, sc (.i64 c)), (7, sc (.i64 i))],
  [(0, ⟨false, [.vi l.length l]⟩), (1, ⟨false, [.vi m.length m]⟩), (2, ⟨true, [.vi out.length out]⟩)], 16⟩
def sumTd : List Nat := [0, 1, 5, 6, 7]
theorem sumRound (l m : List Int) (n : Nat) (out : List Int) (i c : Int) : roundS Tryz.prog (lookG tblAt) (orcOf [4, 5, 6, 7, 8] [(4, [(6, true)])]) [] 10 sumTd (bodyAt Tryz.prog 85 4) (sumInv l m n out i c) =
    some (Ex.normal, St.mk (slotsOf 36 [(0, sc (IV.sl 0 0 l.length)), (1, sc (IV.sl 1 0 m.length)), (5, sc (IV.sl 2 0 (n + 1))), (6, sc (IV.i64 ((l.getD i.toNat (0 : Int) + m.getD i.toNat (0 : Int) + c).tdiv (256 : Int)))), (7, sc (IV.i64 (i + (1 : Int))))]) [(0, Blk.mk false [IV.vi l.length l]), (1, Blk.mk false [IV.vi m.length m]), (2, Blk.mk true [IV.vi (out ++ (List.replicate 1 (0 : Int)).set 0 ((l.getD i.toNat (0 : Int) + m.getD i.toNat (0 : Int) + c).tmod (256 : Int))).length (out ++ (List.replicate 1 (0 : Int)).set 0 ((l.getD i.toNat (0 : Int) + m.getD i.toNat (0 : Int) + c).tmod (256 : Int)))])] 16, [decide (i ≤ if (↑m.length : Int) > (↑l.length : Int) then (↑m.length : Int) else (↑l.length : Int)) = true, l.length = l.length, (0 : Int) ≤ i, m.length = m.length, (0 : Int) ≤ i, inI64 (l.getD i.toNat (0 : Int) + m.getD i.toNat (0 : Int)), inI64 (l.getD i.toNat (0 : Int) + m.getD i.toNat (0 : Int) + c), (256 : Int) ≠ (0 : Int), 1 = 1, n = out.length, (n + 1) * 8 ≤ 140737488355328 ∧ n + 1 ≤ 9223372036854775807, (256 : Int) ≠ (0 : Int), inI64 ((l.getD i.toNat (0 : Int) + m.getD i.toNat (0 : Int) + c).tdiv (256 : Int)), inI64 (i + (1 : Int))]) := by kernel_rfl
theorem sumExit (l m : List Int) (n : Nat) (out : List Int) (i c : Int) : roundS Tryz.prog (lookG tblAt) (orcOf [4, 5, 6, 7, 8] [(4, [(6, false)])]) [] 10 sumTd (bodyAt Tryz.prog 85 4) (sumInv l m n out i c) =
    some (Ex.exit 0, St.mk (slotsOf 36 [(0, sc (IV.sl 0 0 l.length)), (1, sc (IV.sl 1 0 m.length)), (5, sc (IV.sl 2 0 n)), (6, sc (IV.i64 c)), (7, sc (IV.i64 i))]) [(0, Blk.mk false [IV.vi l.length l]), (1, Blk.mk false [IV.vi m.length m]), (2, Blk.mk true [IV.vi out.length out])] 16, [decide (i ≤ if (↑m.length : Int) > (↑l.length : Int) then (↑m.length : Int) else (↑l.length : Int)) = false]) := by kernel_rfl
theorem runSum (l m out : List Int) (n : Nat) (i c : Int) : fnS Tryz.prog (lookG tblAt) (orcOf [9] []) [⟨4, sumTd, .exit 0, sumInv l m n out i c⟩] 10 85 [sc (.dI l), sc (.dI m)] =
    some (sc (IV.dI (cutL out 0 (trimFrom out out.length) out.length)), [LoopTo Tryz.prog (bodyAt Tryz.prog 85 4) (St.mk (slotsOf 36 [(0, sc (IV.sl 0 0 l.length)), (1, sc (IV.sl 1 0 m.length)), (5, sc (IV.sl 2 0 0)), (6, sc (IV.i64 (0 : Int))), (7, sc (IV.i64 (0 : Int)))]) [(0, Blk.mk false [IV.vi l.length l]), (1, Blk.mk false [IV.vi m.length m]), (2, Blk.mk true [IV.vi 0 []])] 16) (Ex.exit 0) (St.mk (slotsOf 36 [(0, sc (IV.sl 0 0 l.length)), (1, sc (IV.sl 1 0 m.length)), (5, sc (IV.sl 2 0 n)), (6, sc (IV.i64 c)), (7, sc (IV.i64 i))]) [(0, Blk.mk false [IV.vi l.length l]), (1, Blk.mk false [IV.vi m.length m]), (2, Blk.mk true [IV.vi out.length out])] 16), n = out.length, out.length ≤ 1000000000, trimFrom out out.length ≤ n, 0 + trimFrom out out.length ≤ out.length]) := by kernel_rfl

theorem maxL_eq (l m : List Int) : (if (m.length : Int) > (l.length : Int) then (m.length : Int) else (l.length : Int)) = ((max l.length m.length : Nat) : Int) := by
  split <;> omega
theorem one_set (x : Int) : (List.replicate 1 (0 : Int)).set 0 x = [x] := rfl
theorem tmod_cast (n : Nat) : ((n : Int)).tmod 256 = ((n % 256 : Nat) : Int) := (Int.ofNat_tmod n 256).symm
theorem tdiv_cast (n : Nat) : ((n : Int)).tdiv 256 = ((n / 256 : Nat) : Int) := (Int.ofNat_tdiv n 256).symm
theorem trim_dg {l : List Int} (h : IsD l) : cutL l 0 (trimFrom l l.length) l.length = dg (nv l) := by
  rw [← trim_eq h]
  unfold trim cutL
  split
  · rename_i e; rw [e.2, List.take_length]
  · simp

/-- The digits of a sum, and what is carried. -/
def sumD (a b : Nat) : Nat → List Int × Nat
  | 0 => ([], 0)
  | n + 1 => ((sumD a b n).1 ++ [(((dig a n + dig b n + (sumD a b n).2) % 256 : Nat) : Int)], (dig a n + dig b n + (sumD a b n).2) / 256)
theorem sumD_ok (a b : Nat) : ∀ n, (sumD a b n).1.length = n ∧ IsD (sumD a b n).1 ∧ (sumD a b n).2 ≤ 1 ∧ nv (sumD a b n).1 + 256 ^ n * (sumD a b n).2 = a % 256 ^ n + b % 256 ^ n
  | 0 => ⟨rfl, IsD_nil, Nat.zero_le _, by simp [sumD, nv, Nat.mod_one]⟩
  | n + 1 => by
    obtain ⟨h1, h2, h3, h4⟩ := sumD_ok a b n
    have hx := dig_lt a n
    have hy := dig_lt b n
    refine ⟨by simp [sumD, h1], IsD_snoc h2 (Nat.mod_lt _ (by omega)), ?_, ?_⟩
    · simp only [sumD]; omega
    · simp only [sumD]
      rw [nv_snocN, h1]
      exact sum_step h4
def sumN (l m : List Int) : Nat := max l.length m.length + 1
theorem sumD_all {l m : List Int} (hl : IsD l) (hm : IsD m) : nv (sumD (nv l) (nv m) (sumN l m)).1 = nv l + nv m := by
  obtain ⟨h1, h2, h3, h4⟩ := sumD_ok (nv l) (nv m) (sumN l m)
  have a1 := nv_lt hl
  have a2 := nv_lt hm
  have b1 : 256 ^ l.length ≤ 256 ^ max l.length m.length := Nat.pow_le_pow_right (by omega) (by omega)
  have b2 : 256 ^ m.length ≤ 256 ^ max l.length m.length := Nat.pow_le_pow_right (by omega) (by omega)
  have e : 256 ^ sumN l m = 256 ^ max l.length m.length * 256 := Nat.pow_succ ..
  rw [e] at h4
  generalize 256 ^ max l.length m.length = p at *
  rw [Nat.mod_eq_of_lt (by omega), Nat.mod_eq_of_lt (by omega)] at h4
  generalize (sumD (nv l) (nv m) (sumN l m)).2 = c at *
  have : c = 0 := by
    rcases Nat.eq_zero_or_pos c with h | h
    · exact h
    · have : p * 256 * 1 ≤ p * 256 * c := Nat.mul_le_mul_left _ h
      omega
  subst this
  simpa using h4

theorem sumLoop (l m : List Int) (hl : IsD l) (hm : IsD m) (bl : l.length ≤ 4000000) (bm : m.length ≤ 4000000) :
    LoopTo Tryz.prog (bodyAt Tryz.prog 85 4) (sumInv l m 0 [] 0 0) (.exit 0) (sumInv l m (sumN l m) (sumD (nv l) (nv m) (sumN l m)).1 (sumN l m : Nat) (sumD (nv l) (nv m) (sumN l m)).2) := by
  refine LoopTo.intro (α := Nat × List Int × Int) gsAt fol (fun a => sumInv l m a.1 a.2.1 (a.1 : Nat) a.2.2) (fun a => a.1 ≤ sumN l m ∧ a.2.1 = (sumD (nv l) (nv m) a.1).1 ∧ a.2.2 = (sumD (nv l) (nv m) a.1).2) (fun a => sumN l m - a.1) (by simp) ?_ (0, [], 0) ⟨Nat.zero_le _, rfl, rfl⟩
  rintro ⟨n, out, c⟩ ⟨hn, ho, hc⟩
  dsimp only at hn ho hc ⊢
  subst ho hc
  obtain ⟨h1, h2, h3, h4⟩ := sumD_ok (nv l) (nv m) n
  have hx := dig_lt (nv l) n
  have hy := dig_lt (nv m) n
  have hN : sumN l m = max l.length m.length + 1 := rfl
  by_cases he : n = sumN l m
  · subst he
    exact .inr ⟨_, _, _, _, _, sumExit l m _ _ _ _, by rw [maxL_eq, decide_eq_false_iff_not]; omega, trivial⟩
  · refine .inl ⟨_, _, _, _, _, (n + 1, _, _), sumRound l m n _ _ _, ?_, ⟨by simp only; omega, ?_, ?_⟩, by simp only; omega⟩
    · simp only [AllP, maxL_eq, Int.toNat_natCast, getD_dig hl, getD_dig hm, inI64, tdiv_cast, ← Int.natCast_add, decide_eq_true_eq]
      and_intros <;> first | omega | trivial
    · simp only [one_set, Int.toNat_natCast, getD_dig hl, getD_dig hm, ← Int.natCast_add, tmod_cast, sumD]
    · simp only [Int.toNat_natCast, getD_dig hl, getD_dig hm, ← Int.natCast_add, sumD]
      rfl
def spSum : List AV → Option (AV × List Prop)
  | [.val false [.dI l], .val false [.dI m]] => some (sc (.dI (dg (nv l + nv m))), [IsD l, IsD m, l.length ≤ 4000000, m.length ≤ 4000000])
  | _ => none
theorem ctSum : CtSOk Tryz.prog 85 (.fn spSum) := FnS_of_fnS gsAt fol fun ds r cs h hc => by
  unfold spSum at h
  split at h
  case h_2 => simp at h
  rename_i l m
  simp only [Option.some.injEq, Prod.mk.injEq] at h
  obtain ⟨rfl, rfl⟩ := h
  obtain ⟨hl, hm, bl, bm, _⟩ := hc
  obtain ⟨h1, h2, h3, h4⟩ := sumD_ok (nv l) (nv m) (sumN l m)
  have e := sumD_all hl hm
  have hN : sumN l m = max l.length m.length + 1 := rfl
  have t := trimFrom_le (sumD (nv l) (nv m) (sumN l m)).1 (sumD (nv l) (nv m) (sumN l m)).1.length
  refine use_run (runSum l m (sumD (nv l) (nv m) (sumN l m)).1 (sumN l m) (sumN l m : Nat) (sumD (nv l) (nv m) (sumN l m)).2) ?_ ⟨sumLoop l m hl hm bl bm, ?_⟩
  · rw [trim_dg h2, e]
  · simp only [AllP]
    refine ⟨by omega, by omega, by omega, by omega, trivial⟩
end Go.Proofs.YtlgiaglbdifkpaaGreatDoor
/- Contracts of the document's digit lists: differences, comparisons, bytes, words. Own work. -/
namespace Go.Proofs.YtlgiaglbdifkpaaGreatDoor
open Go.Ev Go.Sp Go.RowKit
set_option maxRecDepth 100000

/-! ### Differences -/
theorem minusRound (l m : List Int) (n : Nat) (out : List Int) (i c : Int) : roundS Tryz.prog (lookG tblAt) (orcA [(4, [(3, true)])]) [] 10 sumTd (bodyAt Tryz.prog 118 4) (sumInv l m n out i c) =
    some (Ex.normal, St.mk (slotsOf 36 [(0, sc (IV.sl 0 0 l.length)), (1, sc (IV.sl 1 0 m.length)), (5, sc (IV.sl 2 0 (n + 1))), (6, sc (IV.i64 ((1 : Int) - ((256 : Int) + l.getD (0 + i.toNat * 1) (0 : Int) - m.getD i.toNat (0 : Int) - c).tdiv (256 : Int)))), (7, sc (IV.i64 (i + (1 : Int))))]) [(0, Blk.mk false [IV.vi l.length l]), (1, Blk.mk false [IV.vi m.length m]), (2, Blk.mk true [IV.vi (out ++ (List.replicate 1 (0 : Int)).set 0 (((256 : Int) + l.getD (0 + i.toNat * 1) (0 : Int) - m.getD i.toNat (0 : Int) - c).tmod (256 : Int))).length (out ++ (List.replicate 1 (0 : Int)).set 0 (((256 : Int) + l.getD (0 + i.toNat * 1) (0 : Int) - m.getD i.toNat (0 : Int) - c).tmod (256 : Int)))])] 16, [decide (i < (↑l.length : Int)) = true, (0 : Int) ≤ i, i.toNat < l.length, 0 + i.toNat * 1 < l.length, inI64 ((256 : Int) + l.getD (0 + i.toNat * 1) (0 : Int)), m.length = m.length, (0 : Int) ≤ i, inI64 ((256 : Int) + l.getD (0 + i.toNat * 1) (0 : Int) - m.getD i.toNat (0 : Int)), inI64 ((256 : Int) + l.getD (0 + i.toNat * 1) (0 : Int) - m.getD i.toNat (0 : Int) - c), (256 : Int) ≠ (0 : Int), 1 = 1, n = out.length, (n + 1) * 8 ≤ 140737488355328 ∧ n + 1 ≤ 9223372036854775807, (256 : Int) ≠ (0 : Int), inI64 (((256 : Int) + l.getD (0 + i.toNat * 1) (0 : Int) - m.getD i.toNat (0 : Int) - c).tdiv (256 : Int)), inI64 ((1 : Int) - ((256 : Int) + l.getD (0 + i.toNat * 1) (0 : Int) - m.getD i.toNat (0 : Int) - c).tdiv (256 : Int)), inI64 (i + (1 : Int))]) := by kernel_rfl
theorem minusExit (l m : List Int) (n : Nat) (out : List Int) (i c : Int) : roundS Tryz.prog (lookG tblAt) (orcA [(4, [(3, false)])]) [] 10 sumTd (bodyAt Tryz.prog 118 4) (sumInv l m n out i c) =
    some (Ex.exit 0, St.mk (slotsOf 36 [(0, sc (IV.sl 0 0 l.length)), (1, sc (IV.sl 1 0 m.length)), (5, sc (IV.sl 2 0 n)), (6, sc (IV.i64 c)), (7, sc (IV.i64 i))]) [(0, Blk.mk false [IV.vi l.length l]), (1, Blk.mk false [IV.vi m.length m]), (2, Blk.mk true [IV.vi out.length out])] 16, [decide (i < (↑l.length : Int)) = false]) := by kernel_rfl
theorem runMinus (l m out : List Int) (n : Nat) (i c : Int) : fnS Tryz.prog (lookG tblAt) (orcOf [9] []) [⟨4, sumTd, .exit 0, sumInv l m n out i c⟩] 10 118 [sc (.dI l), sc (.dI m)] =
    some (sc (IV.dI (cutL out 0 (trimFrom out out.length) out.length)), [LoopTo Tryz.prog (bodyAt Tryz.prog 118 4) (St.mk (slotsOf 36 [(0, sc (IV.sl 0 0 l.length)), (1, sc (IV.sl 1 0 m.length)), (5, sc (IV.sl 2 0 0)), (6, sc (IV.i64 (0 : Int))), (7, sc (IV.i64 (0 : Int)))]) [(0, Blk.mk false [IV.vi l.length l]), (1, Blk.mk false [IV.vi m.length m]), (2, Blk.mk true [IV.vi 0 []])] 16) (Ex.exit 0) (St.mk (slotsOf 36 [(0, sc (IV.sl 0 0 l.length)), (1, sc (IV.sl 1 0 m.length)), (5, sc (IV.sl 2 0 n)), (6, sc (IV.i64 c)), (7, sc (IV.i64 i))]) [(0, Blk.mk false [IV.vi l.length l]), (1, Blk.mk false [IV.vi m.length m]), (2, Blk.mk true [IV.vi out.length out])] 16), n = out.length, out.length ≤ 1000000000, trimFrom out out.length ≤ n, 0 + trimFrom out out.length ≤ out.length]) := by kernel_rfl

/-- The digits of a difference, and what is borrowed. -/
def minD (a b : Nat) : Nat → List Int × Nat
  | 0 => ([], 0)
  | n + 1 => ((minD a b n).1 ++ [(((256 + dig a n - dig b n - (minD a b n).2) % 256 : Nat) : Int)], 1 - (256 + dig a n - dig b n - (minD a b n).2) / 256)
theorem minD_ok (a b : Nat) : ∀ n, (minD a b n).1.length = n ∧ IsD (minD a b n).1 ∧ (minD a b n).2 ≤ 1 ∧ nv (minD a b n).1 + b % 256 ^ n = a % 256 ^ n + 256 ^ n * (minD a b n).2
  | 0 => ⟨rfl, IsD_nil, Nat.zero_le _, by simp [minD, nv, Nat.mod_one]⟩
  | n + 1 => by
    obtain ⟨h1, h2, h3, h4⟩ := minD_ok a b n
    refine ⟨by simp [minD, h1], IsD_snoc h2 (Nat.mod_lt _ (by omega)), ?_, ?_⟩
    · simp only [minD]; omega
    · simp only [minD]
      rw [nv_snocN, h1]
      exact minus_step h4 h3
theorem minD_all {l m : List Int} (hl : IsD l) (h : nv m ≤ nv l) : nv (minD (nv l) (nv m) l.length).1 = nv l - nv m := by
  obtain ⟨h1, h2, h3, h4⟩ := minD_ok (nv l) (nv m) l.length
  have a1 := nv_lt hl
  rw [Nat.mod_eq_of_lt (by omega), Nat.mod_eq_of_lt (by omega)] at h4
  have a2 := nv_lt h2
  rw [h1] at a2
  generalize (minD (nv l) (nv m) l.length).2 = c at *
  have : c = 0 := by
    rcases Nat.eq_zero_or_pos c with h | h
    · exact h
    · have : 256 ^ l.length * 1 ≤ 256 ^ l.length * c := Nat.mul_le_mul_left _ h
      omega
  subst this
  omega

theorem minusLoop (l m : List Int) (hl : IsD l) (hm : IsD m) (bl : l.length ≤ 4000000) :
    LoopTo Tryz.prog (bodyAt Tryz.prog 118 4) (sumInv l m 0 [] 0 0) (.exit 0) (sumInv l m l.length (minD (nv l) (nv m) l.length).1 (l.length : Nat) (minD (nv l) (nv m) l.length).2) := by
  refine LoopTo.intro (α := Nat × List Int × Int) gsAt fol (fun a => sumInv l m a.1 a.2.1 (a.1 : Nat) a.2.2) (fun a => a.1 ≤ l.length ∧ a.2.1 = (minD (nv l) (nv m) a.1).1 ∧ a.2.2 = (minD (nv l) (nv m) a.1).2) (fun a => l.length - a.1) (by simp) ?_ (0, [], 0) ⟨Nat.zero_le _, rfl, rfl⟩
  rintro ⟨n, out, c⟩ ⟨hn, ho, hc⟩
  dsimp only at hn ho hc ⊢
  subst ho hc
  obtain ⟨h1, h2, h3, h4⟩ := minD_ok (nv l) (nv m) n
  have hx := dig_lt (nv l) n
  have hy := dig_lt (nv m) n
  by_cases he : n = l.length
  · subst he
    exact .inr ⟨_, _, _, _, _, minusExit l m _ _ _ _, by rw [decide_eq_false_iff_not]; omega, trivial⟩
  · have e : (256 : Int) + ((dig (nv l) n : Nat) : Int) - ((dig (nv m) n : Nat) : Int) - (((minD (nv l) (nv m) n).2 : Nat) : Int) = ((256 + dig (nv l) n - dig (nv m) n - (minD (nv l) (nv m) n).2 : Nat) : Int) := by omega
    have e2 : (1 : Int) - (((256 + dig (nv l) n - dig (nv m) n - (minD (nv l) (nv m) n).2) / 256 : Nat) : Int) = ((1 - (256 + dig (nv l) n - dig (nv m) n - (minD (nv l) (nv m) n).2) / 256 : Nat) : Int) := by omega
    refine .inl ⟨_, _, _, _, _, (n + 1, _, _), minusRound l m n _ _ _, ?_, ⟨by simp only; omega, ?_, ?_⟩, by simp only; omega⟩
    · simp only [AllP, Int.toNat_natCast, Nat.zero_add, Nat.mul_one, getD_dig hl, getD_dig hm, inI64, e, tdiv_cast, e2, decide_eq_true_eq]
      and_intros <;> first | omega | trivial
    · simp only [one_set, Int.toNat_natCast, Nat.zero_add, Nat.mul_one, getD_dig hl, getD_dig hm, e, tmod_cast, minD]
    · simp only [Int.toNat_natCast, Nat.zero_add, Nat.mul_one, getD_dig hl, getD_dig hm, e, tdiv_cast, e2, minD]
def spMinus : List AV → Option (AV × List Prop)
  | [.val false [.dI l], .val false [.dI m]] => some (sc (.dI (dg (nv l - nv m))), [IsD l, IsD m, nv m ≤ nv l, l.length ≤ 4000000])
  | _ => none
theorem ctMinus : CtSOk Tryz.prog 118 (.fn spMinus) := FnS_of_fnS gsAt fol fun ds r cs h hc => by
  unfold spMinus at h
  split at h
  case h_2 => simp at h
  rename_i l m
  simp only [Option.some.injEq, Prod.mk.injEq] at h
  obtain ⟨rfl, rfl⟩ := h
  obtain ⟨hl, hm, hle, bl, _⟩ := hc
  obtain ⟨h1, h2, h3, h4⟩ := minD_ok (nv l) (nv m) l.length
  have e := minD_all hl hle
  have t := trimFrom_le (minD (nv l) (nv m) l.length).1 (minD (nv l) (nv m) l.length).1.length
  refine use_run (runMinus l m (minD (nv l) (nv m) l.length).1 l.length (l.length : Nat) (minD (nv l) (nv m) l.length).2) ?_ ⟨minusLoop l m hl hm bl, ?_⟩
  · rw [trim_dg h2, e]
  · simp only [AllP]
    and_intros <;> first | omega | trivial

/-! ### Which is less -/
def lessTd : List Nat := [0, 1, 5]
def lessInv (l m : List Int) (i : Int) : St := ⟨slotsOf 29 [(0, sc (.sl 0 0 l.length)), (1, sc (.sl 1 0 m.length)), (5, sc (.i64 i))], [(0, ⟨false, [.vi l.length l]⟩), (1, ⟨false, [.vi m.length m]⟩)], 16⟩
def lessOut (b : Bool) : St := ⟨slotsOf 29 [(4, sc (.bool b))], [], 16⟩
theorem lessRound (l m : List Int) (i : Int) : roundS Tryz.prog (lookG tblAt) (orcA [(2, [(1, true)]), (4, [(6, false)])]) [] 10 lessTd (bodyAt Tryz.prog 70 2) (lessInv l m i) =
    some (Ex.normal, St.mk (slotsOf 29 [(0, sc (IV.sl 0 0 l.length)), (1, sc (IV.sl 1 0 m.length)), (5, sc (IV.i64 (i - (1 : Int))))]) [(0, Blk.mk false [IV.vi l.length l]), (1, Blk.mk false [IV.vi m.length m])] 16, [decide ((0 : Int) ≤ i) = true, l.length = l.length, (0 : Int) ≤ i, m.length = m.length, (0 : Int) ≤ i, (!l.getD i.toNat (0 : Int) == m.getD i.toNat (0 : Int)) = false, inI64 (i - (1 : Int))]) := by kernel_rfl
theorem lessExit (l m : List Int) (i : Int) : roundS Tryz.prog (lookG tblAt) (orcA [(2, [(1, false)])]) [] 10 lessTd (bodyAt Tryz.prog 70 2) (lessInv l m i) =
    some (Ex.exit 0, St.mk (slotsOf 29 [(0, sc (IV.sl 0 0 l.length)), (1, sc (IV.sl 1 0 m.length)), (5, sc (IV.i64 i))]) [(0, Blk.mk false [IV.vi l.length l]), (1, Blk.mk false [IV.vi m.length m])] 16, [decide ((0 : Int) ≤ i) = false]) := by kernel_rfl
theorem lessRet (l m : List Int) (i : Int) : roundS Tryz.prog (lookG tblAt) (orcA [(2, [(1, true)]), (4, [(6, true)])]) [] 10 [4] (bodyAt Tryz.prog 70 2) (lessInv l m i) =
    some (Ex.ret, St.mk (slotsOf 29 [(4, sc (IV.bool (decide (l.getD i.toNat (0 : Int) < m.getD i.toNat (0 : Int)))))]) [] 16, [decide ((0 : Int) ≤ i) = true, l.length = l.length, (0 : Int) ≤ i, m.length = m.length, (0 : Int) ≤ i, (!l.getD i.toNat (0 : Int) == m.getD i.toNat (0 : Int)) = true, l.length = l.length, (0 : Int) ≤ i, m.length = m.length, (0 : Int) ≤ i]) := by kernel_rfl
theorem runLess0 (l m : List Int) (i : Int) : fnS Tryz.prog (lookG tblAt) orc0 [⟨2, lessTd, .exit 0, lessInv l m i⟩] 10 70 [sc (.dI l), sc (.dI m)] =
    some (sc (IV.bool false), [LoopTo Tryz.prog (bodyAt Tryz.prog 70 2) (St.mk (slotsOf 29 [(0, sc (IV.sl 0 0 l.length)), (1, sc (IV.sl 1 0 m.length)), (5, sc (IV.i64 (if (↑m.length : Int) > (↑l.length : Int) then (↑m.length : Int) else (↑l.length : Int))))]) [(0, Blk.mk false [IV.vi l.length l]), (1, Blk.mk false [IV.vi m.length m])] 16) (Ex.exit 0) (St.mk (slotsOf 29 [(0, sc (IV.sl 0 0 l.length)), (1, sc (IV.sl 1 0 m.length)), (5, sc (IV.i64 i))]) [(0, Blk.mk false [IV.vi l.length l]), (1, Blk.mk false [IV.vi m.length m])] 16)]) := by kernel_rfl
theorem runLess1 (l m : List Int) (b : Bool) : fnS Tryz.prog (lookG tblAt) orc0 [⟨2, lessTd, .ret, lessOut b⟩] 10 70 [sc (.dI l), sc (.dI m)] =
    some (sc (IV.bool b), [LoopTo Tryz.prog (bodyAt Tryz.prog 70 2) (St.mk (slotsOf 29 [(0, sc (IV.sl 0 0 l.length)), (1, sc (IV.sl 1 0 m.length)), (5, sc (IV.i64 (if (↑m.length : Int) > (↑l.length : Int) then (↑m.length : Int) else (↑l.length : Int))))]) [(0, Blk.mk false [IV.vi l.length l]), (1, Blk.mk false [IV.vi m.length m])] 16) Ex.ret (St.mk (slotsOf 29 [(4, sc (IV.bool b))]) [] 16)]) := by kernel_rfl

theorem lessLoop (l m : List Int) (hl : IsD l) (hm : IsD m) (bl : l.length ≤ 4000000) (bm : m.length ≤ 4000000) :
    (nv l = nv m → LoopTo Tryz.prog (bodyAt Tryz.prog 70 2) (lessInv l m (max l.length m.length : Nat)) (.exit 0) (lessInv l m (-1))) ∧
    (nv l ≠ nv m → LoopTo Tryz.prog (bodyAt Tryz.prog 70 2) (lessInv l m (max l.length m.length : Nat)) .ret (lessOut (decide (nv l < nv m)))) := by
  have top : nv l / 256 ^ (max l.length m.length + 1) = nv m / 256 ^ (max l.length m.length + 1) := by
    have a1 := nv_lt hl
    have a2 := nv_lt hm
    have b1 : 256 ^ l.length ≤ 256 ^ (max l.length m.length + 1) := Nat.pow_le_pow_right (by omega) (by omega)
    have b2 : 256 ^ m.length ≤ 256 ^ (max l.length m.length + 1) := Nat.pow_le_pow_right (by omega) (by omega)
    rw [Nat.div_eq_of_lt (by omega), Nat.div_eq_of_lt (by omega)]
  have hmax : max l.length m.length ≤ 4000000 := by omega
  generalize max l.length m.length = N at *
  constructor
  · intro e
    refine LoopTo.intro (α := Int) gsAt fol (fun i => lessInv l m i) (fun i => -1 ≤ i ∧ i ≤ N) (fun i => (i + 1).toNat) (by simp) ?_ (N : Nat) ⟨by omega, by omega⟩
    rintro i ⟨h1, h2⟩
    by_cases hi : i = -1
    · subst hi
      exact .inr ⟨_, _, _, _, _, lessExit l m _, by simp, trivial⟩
    · refine .inl ⟨_, _, _, _, _, i - 1, lessRound l m i, ?_, ⟨by omega, by omega⟩, by omega⟩
      simp only [AllP, getD_dig hl, getD_dig hm, e, inI64, decide_eq_true_eq]
      and_intros <;> first | omega | simp
  · intro e
    refine LoopTo.intro (α := Nat) gsAt fol (fun i => lessInv l m (i : Nat)) (fun i => i ≤ N ∧ nv l / 256 ^ (i + 1) = nv m / 256 ^ (i + 1)) (fun i => i) (by simp) ?_ N ⟨by omega, top⟩
    rintro i ⟨h1, h2⟩
    obtain ⟨s1, s2⟩ := less_step h2
    have hx := dig_lt (nv l) i
    by_cases hd : dig (nv l) i = dig (nv m) i
    · have h3 := s1 hd
      cases i with
      | zero => simp at h3; exact absurd h3 e
      | succ j =>
        have e1 : ((j + 1 : Nat) : Int) - 1 = (j : Int) := by omega
        have r := lessRound l m ((j + 1 : Nat) : Int)
        rw [e1] at r
        refine .inl ⟨_, _, _, _, _, j, r, ?_, ⟨by omega, h3⟩, by omega⟩
        simp only [AllP, Int.toNat_natCast, getD_dig hl, getD_dig hm, hd, inI64, decide_eq_true_eq]
        and_intros <;> first | omega | simp
    · have h3 := s2 hd
      have hb : decide (nv l < nv m) = decide (l.getD ((i : Nat) : Int).toNat (0 : Int) < m.getD ((i : Nat) : Int).toNat (0 : Int)) := by
        simp only [Int.toNat_natCast, getD_dig hl, getD_dig hm, h3, Int.ofNat_lt]
      rw [hb]
      refine .inr ⟨_, _, _, _, _, lessRet l m _, ?_⟩
      simp only [AllP, Int.toNat_natCast, getD_dig hl, getD_dig hm, decide_eq_true_eq]
      and_intros <;> first | omega | (simp; done) | (simp; omega)
def spLess : List AV → Option (AV × List Prop)
  | [.val false [.dI l], .val false [.dI m]] => some (sc (.bool (decide (nv l < nv m))), [IsD l, IsD m, l.length ≤ 4000000, m.length ≤ 4000000])
  | _ => none
theorem ctLess : CtSOk Tryz.prog 70 (.fn spLess) := FnS_of_fnS gsAt fol fun ds r cs h hc => by
  unfold spLess at h
  split at h
  case h_2 => simp at h
  rename_i l m
  simp only [Option.some.injEq, Prod.mk.injEq] at h
  obtain ⟨rfl, rfl⟩ := h
  obtain ⟨hl, hm, bl, bm, _⟩ := hc
  obtain ⟨h1, h2⟩ := lessLoop l m hl hm bl bm
  by_cases e : nv l = nv m
  · refine use_run (runLess0 l m (-1)) (by simp [e]) ⟨?_, trivial⟩
    rw [maxL_eq]
    exact h1 e
  · refine use_run (runLess1 l m (decide (nv l < nv m))) rfl ⟨?_, trivial⟩
    rw [maxL_eq]
    exact h2 e
end Go.Proofs.YtlgiaglbdifkpaaGreatDoor
/- Digits of words and bytes, plainly. Own work; no program in sight. -/
namespace Go.Sp
open Go.Ev (N4 dg nv)

/-- The lowest digits of a number. -/
def dl (x : Nat) : Nat → List Int
  | 0 => []
  | n + 1 => dl x n ++ [((dig x n : Nat) : Int)]
theorem dl_ok (x : Nat) : ∀ n, (dl x n).length = n ∧ IsD (dl x n) ∧ nv (dl x n) = x % 256 ^ n
  | 0 => ⟨rfl, IsD_nil, by simp [dl, nv, Nat.mod_one]⟩
  | n + 1 => by
    obtain ⟨h1, h2, h3⟩ := dl_ok x n
    refine ⟨by simp [dl, h1], IsD_snoc h2 (dig_lt x n), ?_⟩
    simp only [dl]
    rw [nv_snocN, h1, h3, mod_succ]

theorem get_val (a : N4) {i : Nat} (hi : i < 4) : (a.get i).toNat = val a / 256 ^ (8 * i) % 256 ^ 8 := by
  have e0 := a.w0.isLt
  have e1 := a.w1.isLt
  have e2 := a.w2.isLt
  have e3 := a.w3.isLt
  match i, hi with
  | 0, _ => simp only [Go.Ev.N4.get, val, show (256 : Nat) ^ (8 * 0) = 1 from rfl, show (256 : Nat) ^ 8 = 18446744073709551616 from rfl]; omega
  | 1, _ => simp only [Go.Ev.N4.get, val, show (256 : Nat) ^ (8 * 1) = 18446744073709551616 from rfl]; omega
  | 2, _ => simp only [Go.Ev.N4.get, val, show (256 : Nat) ^ (8 * 2) = 340282366920938463463374607431768211456 from rfl, show (256 : Nat) ^ 8 = 18446744073709551616 from rfl]; omega
  | 3, _ => simp only [Go.Ev.N4.get, val, show (256 : Nat) ^ (8 * 3) = 6277101735386680763835789423207666416102355444464034512896 from rfl, show (256 : Nat) ^ 8 = 18446744073709551616 from rfl]; omega

/-- A digit of a number's word. -/
theorem mod_dig (y : Nat) {k n : Nat} (hk : k < n) : y % 256 ^ n / 256 ^ k % 256 = y / 256 ^ k % 256 := by
  obtain ⟨d, rfl⟩ := Nat.exists_eq_add_of_lt hk
  have e : 256 ^ (k + d + 1) = 256 ^ k * 256 ^ (d + 1) := by rw [Nat.add_assoc, Nat.pow_add]
  rw [e, Nat.mod_mul_right_div_self, Nat.pow_succ, Nat.mul_comm (256 ^ d) 256, Nat.mod_mul_right_mod]
theorem get_dig (a : N4) {i k : Nat} (hi : i < 4) (hk : k < 8) : (a.get i).toNat / 256 ^ k % 256 = dig (val a) (8 * i + k) := by
  rw [get_val a hi, mod_dig _ hk, Nat.div_div_eq_div_mul, ← Nat.pow_add]
  rfl

/-- The lowest first: bytes as a number. -/
def bv : List (BitVec 8) → Nat
  | [] => 0
  | x :: r => x.toNat + 256 * bv r
theorem bv_append : ∀ (l m : List (BitVec 8)), bv (l ++ m) = bv l + 256 ^ l.length * bv m
  | [], m => by simp [bv]
  | d :: l, m => by
    simp only [List.cons_append, bv, bv_append l m, List.length_cons, Nat.pow_succ]
    rw [Nat.mul_add, Nat.mul_comm (256 ^ l.length) 256, Nat.mul_assoc]
    omega
theorem bv_lt : ∀ (l : List (BitVec 8)), bv l < 256 ^ l.length
  | [] => by simp [bv]
  | d :: l => by
    have h1 := d.isLt
    have h2 := bv_lt l
    simp only [bv, List.length_cons, Nat.pow_succ]
    omega
/-- Bytes as digits. -/
def bd (l : List (BitVec 8)) : List Int := l.map fun x => (x.toNat : Int)
theorem bd_D (l : List (BitVec 8)) : IsD (bd l) := fun d h => by
  obtain ⟨x, _, rfl⟩ := List.mem_map.1 h
  have := x.isLt
  omega
theorem nv_bd : ∀ l : List (BitVec 8), nv (bd l) = bv l
  | [] => rfl
  | x :: r => by
    have := nv_bd r
    simp only [bd] at this
    simp only [bd, List.map_cons, nv, bv, this]
    simp
/-- So many bytes of a number. -/
def bl (x : Nat) : Nat → List (BitVec 8)
  | 0 => []
  | n + 1 => bl x n ++ [BitVec.ofNat 8 (x / 256 ^ n)]
theorem bl_length (x : Nat) : ∀ n, (bl x n).length = n
  | 0 => rfl
  | n + 1 => by simp [bl, bl_length x n]
theorem bv_bl (x : Nat) : ∀ n, bv (bl x n) = x % 256 ^ n
  | 0 => by simp [bl, bv, Nat.mod_one]
  | n + 1 => by
    simp only [bl]
    rw [bv_append, bv_bl x n, bl_length, mod_succ]
    simp [bv, dig]
theorem bv_inj : ∀ {l m : List (BitVec 8)}, l.length = m.length → bv l = bv m → l = m
  | [], [], _, _ => rfl
  | [], _ :: _, h, _ => by simp at h
  | _ :: _, [], h, _ => by simp at h
  | a :: l, b :: m, h, e => by
    have h1 := a.isLt
    have h2 := b.isLt
    simp only [bv] at e
    have e1 : a.toNat = b.toNat := by omega
    have e2 := bv_inj (l := l) (m := m) (by simpa using h) (by omega)
    rw [BitVec.eq_of_toNat_eq e1, e2]
theorem bl_bv (l : List (BitVec 8)) : bl (bv l) l.length = l := bv_inj (bl_length _ _) (by rw [bv_bl, Nat.mod_eq_of_lt (bv_lt l)])
theorem bl_mod (x n : Nat) : bl (x % 256 ^ n) n = bl x n := bv_inj (by rw [bl_length, bl_length]) (by rw [bv_bl, bv_bl, Nat.mod_mod])

/-- The word that stands from a place on, read digit by digit from the highest. -/
def wAcc (y j : Nat) : Nat := y % 256 ^ 8 / 256 ^ (8 - j)
theorem wAcc_succ (y : Nat) {j : Nat} (hj : j < 8) : wAcc y (j + 1) = wAcc y j * 256 + y / 256 ^ (7 - j) % 256 := by
  unfold wAcc
  have e1 : 8 - (j + 1) = 7 - j := by omega
  have e2 : 8 - j = 7 - j + 1 := by omega
  rw [e1, e2, ← mod_dig y (show 7 - j < 8 by omega)]
  generalize y % 256 ^ 8 = Y
  rw [Nat.pow_succ, ← Nat.div_div_eq_div_mul]
  generalize Y / 256 ^ (7 - j) = z
  omega
theorem wAcc_zero (y : Nat) : wAcc y 0 = 0 := Nat.div_eq_of_lt (Nat.mod_lt _ (Nat.pow_pos (by omega)))
theorem wAcc_all (y : Nat) : wAcc y 8 = y % 256 ^ 8 := by simp [wAcc]
/-- A number's word. -/
def wordN (x i : Nat) : BitVec 64 := BitVec.ofNat 64 (x / 256 ^ (8 * i))
theorem wAcc_word (x i : Nat) : BitVec.ofNat 64 (wAcc (x / 256 ^ (8 * i)) 8) = wordN x i := by
  rw [wAcc_all, wordN]
  apply BitVec.eq_of_toNat_eq
  simp
theorem words_ofN (x : Nat) : (⟨wordN x 0, wordN x 1, wordN x 2, wordN x 3⟩ : N4) = ofN x := by
  have e0 : (256 : Nat) ^ (8 * 0) = 1 := rfl
  have e1 : (256 : Nat) ^ (8 * 1) = 18446744073709551616 := rfl
  have e2 : (256 : Nat) ^ (8 * 2) = 340282366920938463463374607431768211456 := rfl
  have e3 : (256 : Nat) ^ (8 * 3) = 6277101735386680763835789423207666416102355444464034512896 := rfl
  simp only [wordN, ofN, e0, e1, e2, e3, Nat.div_one]
theorem words_ofN' (x : Nat) : (⟨wordN x 4, wordN x 5, wordN x 6, wordN x 7⟩ : N4) = ofN (x / p256) := by
  have e : ∀ i, x / p256 / 256 ^ (8 * i) = x / 256 ^ (8 * (4 + i)) := fun i => by
    rw [show p256 = 256 ^ 32 from rfl, Nat.div_div_eq_div_mul, ← Nat.pow_add]
    congr 2
    omega
  rw [← words_ofN]
  simp only [wordN, e]
end Go.Sp
/- Contracts of the document's digit lists: bytes and words. Own work. -/
namespace Go.Proofs.YtlgiaglbdifkpaaGreatDoor
open Go.Ev Go.Sp Go.RowKit
set_option maxRecDepth 100000

/-! ### Bytes read -/
def readTd : List Nat := [0, 3, 4]
def readInv (b : List (BitVec 8)) (n : Nat) (out : List Int) (i : Int) : St := ⟨slotsOf 21 [(0, sc (.sl 0 0 b.length)), (3, sc (.sl 1 0 n)), (4, sc (.i64 i))], [(0, ⟨false, [.v8 b.length b]⟩), (1, ⟨true, [.vi out.length out]⟩)], 16⟩
theorem readRound (b : List (BitVec 8)) (n : Nat) (out : List Int) (i : Int) : roundS Tryz.prog (lookG tblAt) (orcA [(3, [(3, true)])]) [] 10 readTd (bodyAt Tryz.prog 51 3) (readInv b n out i) =
    some (Ex.normal, St.mk (slotsOf 21 [(0, sc (IV.sl 0 0 b.length)), (3, sc (IV.sl 1 0 (n + 1))), (4, sc (IV.i64 (i + (1 : Int))))]) [(0, Blk.mk false [IV.v8 b.length b]), (1, Blk.mk true [IV.vi (out ++ (List.replicate 1 (0 : Int)).set 0 (↑(b.getD (0 + i.toNat * 1) (BitVec.ofNat 8 0)).toNat : Int)).length (out ++ (List.replicate 1 (0 : Int)).set 0 (↑(b.getD (0 + i.toNat * 1) (BitVec.ofNat 8 0)).toNat : Int))])] 16, [decide (i < (↑b.length : Int)) = true, (0 : Int) ≤ i, i.toNat < b.length, 0 + i.toNat * 1 < b.length, 1 = 1, n = out.length, (n + 1) * 8 ≤ 140737488355328 ∧ n + 1 ≤ 9223372036854775807, inI64 (i + (1 : Int))]) := by kernel_rfl
theorem readExit (b : List (BitVec 8)) (n : Nat) (out : List Int) (i : Int) : roundS Tryz.prog (lookG tblAt) (orcA [(3, [(3, false)])]) [] 10 readTd (bodyAt Tryz.prog 51 3) (readInv b n out i) =
    some (Ex.exit 0, St.mk (slotsOf 21 [(0, sc (IV.sl 0 0 b.length)), (3, sc (IV.sl 1 0 n)), (4, sc (IV.i64 i))]) [(0, Blk.mk false [IV.v8 b.length b]), (1, Blk.mk true [IV.vi out.length out])] 16, [decide (i < (↑b.length : Int)) = false]) := by kernel_rfl
theorem runRead (b : List (BitVec 8)) (n : Nat) (out : List Int) (i : Int) : fnS Tryz.prog (lookG tblAt) (orcA []) [⟨3, readTd, .exit 0, readInv b n out i⟩] 10 51 [sc (.d8 b)] =
    some (sc (IV.dI (cutL out 0 (trimFrom out out.length) out.length)), [LoopTo Tryz.prog (bodyAt Tryz.prog 51 3) (St.mk (slotsOf 21 [(0, sc (IV.sl 0 0 b.length)), (3, sc (IV.sl 1 0 0)), (4, sc (IV.i64 (0 : Int)))]) [(0, Blk.mk false [IV.v8 b.length b]), (1, Blk.mk true [IV.vi 0 []])] 16) (Ex.exit 0) (St.mk (slotsOf 21 [(0, sc (IV.sl 0 0 b.length)), (3, sc (IV.sl 1 0 n)), (4, sc (IV.i64 i))]) [(0, Blk.mk false [IV.v8 b.length b]), (1, Blk.mk true [IV.vi out.length out])] 16), n = out.length, out.length ≤ 1000000000, trimFrom out out.length ≤ n, 0 + trimFrom out out.length ≤ out.length]) := by kernel_rfl

theorem readLoop (b : List (BitVec 8)) (hb : b.length ≤ 4000000) :
    LoopTo Tryz.prog (bodyAt Tryz.prog 51 3) (readInv b 0 [] 0) (.exit 0) (readInv b b.length (bd b) (b.length : Nat)) := by
  refine LoopTo.intro (α := Nat × List Int) gsAt fol (fun a => readInv b a.1 a.2 (a.1 : Nat)) (fun a => a.1 ≤ b.length ∧ a.2 = bd (b.take a.1)) (fun a => b.length - a.1) (by simp) ?_ (0, []) ⟨Nat.zero_le _, by simp [bd]⟩
  rintro ⟨n, out⟩ ⟨hn, ho⟩
  dsimp only at hn ho ⊢
  subst ho
  have hl : (bd (b.take n)).length = n := by simp [bd]; omega
  by_cases he : n = b.length
  · subst he
    have e : bd (b.take b.length) = bd b := by rw [List.take_length]
    rw [e]
    exact .inr ⟨_, _, _, _, _, readExit b _ _ _, by rw [decide_eq_false_iff_not]; omega, trivial⟩
  · refine .inl ⟨_, _, _, _, _, (n + 1, _), readRound b n _ _, ?_, ⟨by simp only; omega, ?_⟩, by simp only; omega⟩
    · simp only [AllP, Int.toNat_natCast, inI64, decide_eq_true_eq]
      and_intros <;> first | omega | trivial
    · simp only [one_set, Int.toNat_natCast, Nat.zero_add, Nat.mul_one]
      have hlt : n < b.length := by omega
      rw [bd, bd, List.take_succ_eq_append_getElem hlt, List.map_append]
      simp [hlt]
def spRead : List AV → Option (AV × List Prop)
  | [.val false [.d8 b]] => some (sc (.dI (dg (bv b))), [b.length ≤ 4000000])
  | _ => none
theorem ctRead : CtSOk Tryz.prog 51 (.fn spRead) := FnS_of_fnS gsAt fol fun ds r cs h hc => by
  unfold spRead at h
  split at h
  case h_2 => simp at h
  rename_i b
  simp only [Option.some.injEq, Prod.mk.injEq] at h
  obtain ⟨rfl, rfl⟩ := h
  have hb := hc.1
  have hl : (bd b).length = b.length := by simp [bd]
  have t := trimFrom_le (bd b) (bd b).length
  refine use_run (runRead b b.length (bd b) (b.length : Nat)) ?_ ⟨readLoop b hb, ?_⟩
  · rw [trim_dg (bd_D b), nv_bd]
  · simp only [AllP]
    and_intros <;> first | omega | trivial

/-! ### Bytes told -/
def toldTd : List Nat := [0, 1, 5, 6]
def toldInv (l : List Int) (sz : Int) (n : Nat) (out : List (BitVec 8)) (i : Int) : St := ⟨slotsOf 20 [(0, sc (.sl 0 0 l.length)), (1, sc (.i64 sz)), (5, sc (.sl 1 0 n)), (6, sc (.i64 i))], [(0, ⟨false, [.vi l.length l]⟩), (1, ⟨true, [.v8 out.length out]⟩)], 16⟩
theorem toldRound (l : List Int) (sz : Int) (n : Nat) (out : List (BitVec 8)) (i : Int) : roundS Tryz.prog (lookG tblAt) (orcA [(3, [(2, true)])]) [] 10 toldTd (bodyAt Tryz.prog 43 3) (toldInv l sz n out i) =
    some (Ex.normal, St.mk (slotsOf 20 [(0, sc (IV.sl 0 0 l.length)), (1, sc (IV.i64 sz)), (5, sc (IV.sl 1 0 (n + 1))), (6, sc (IV.i64 (i + (1 : Int))))]) [(0, Blk.mk false [IV.vi l.length l]), (1, Blk.mk true [IV.v8 (out ++ (List.replicate 1 (BitVec.ofNat 8 0)).set 0 (BitVec.ofInt 8 (l.getD i.toNat (0 : Int)))).length (out ++ (List.replicate 1 (BitVec.ofNat 8 0)).set 0 (BitVec.ofInt 8 (l.getD i.toNat (0 : Int))))])] 16, [decide (i < sz) = true, l.length = l.length, (0 : Int) ≤ i, 1 = 1, n = out.length, (n + 1) * 1 ≤ 140737488355328 ∧ n + 1 ≤ 9223372036854775807, inI64 (i + (1 : Int))]) := by kernel_rfl
theorem toldExit (l : List Int) (sz : Int) (n : Nat) (out : List (BitVec 8)) (i : Int) : roundS Tryz.prog (lookG tblAt) (orcA [(3, [(2, false)])]) [] 10 toldTd (bodyAt Tryz.prog 43 3) (toldInv l sz n out i) =
    some (Ex.exit 0, St.mk (slotsOf 20 [(0, sc (IV.sl 0 0 l.length)), (1, sc (IV.i64 sz)), (5, sc (IV.sl 1 0 n)), (6, sc (IV.i64 i))]) [(0, Blk.mk false [IV.vi l.length l]), (1, Blk.mk true [IV.v8 out.length out])] 16, [decide (i < sz) = false]) := by kernel_rfl
theorem runTold (l : List Int) (sz : Int) (n : Nat) (out : List (BitVec 8)) (i : Int) : fnS Tryz.prog (lookG tblAt) (orcA []) [⟨3, toldTd, .exit 0, toldInv l sz n out i⟩] 10 43 [sc (.dI l), sc (.i64 sz)] =
    some (sc (IV.d8 (cutL out 0 n out.length)), [LoopTo Tryz.prog (bodyAt Tryz.prog 43 3) (St.mk (slotsOf 20 [(0, sc (IV.sl 0 0 l.length)), (1, sc (IV.i64 sz)), (5, sc (IV.sl 1 0 0)), (6, sc (IV.i64 (0 : Int)))]) [(0, Blk.mk false [IV.vi l.length l]), (1, Blk.mk true [IV.v8 0 []])] 16) (Ex.exit 0) (St.mk (slotsOf 20 [(0, sc (IV.sl 0 0 l.length)), (1, sc (IV.i64 sz)), (5, sc (IV.sl 1 0 n)), (6, sc (IV.i64 i))]) [(0, Blk.mk false [IV.vi l.length l]), (1, Blk.mk true [IV.v8 out.length out])] 16), 0 + n ≤ out.length]) := by kernel_rfl

theorem toldLoop (l : List Int) (hl : IsD l) (N : Nat) (hN : N ≤ 4000000) :
    LoopTo Tryz.prog (bodyAt Tryz.prog 43 3) (toldInv l (N : Nat) 0 [] 0) (.exit 0) (toldInv l (N : Nat) N (bl (nv l) N) (N : Nat)) := by
  refine LoopTo.intro (α := Nat × List (BitVec 8)) gsAt fol (fun a => toldInv l (N : Nat) a.1 a.2 (a.1 : Nat)) (fun a => a.1 ≤ N ∧ a.2 = bl (nv l) a.1) (fun a => N - a.1) (by simp) ?_ (0, []) ⟨Nat.zero_le _, rfl⟩
  rintro ⟨n, out⟩ ⟨hn, ho⟩
  dsimp only at hn ho ⊢
  subst ho
  have hlen := bl_length (nv l) n
  by_cases he : n = N
  · subst he
    exact .inr ⟨_, _, _, _, _, toldExit l _ _ _ _, by rw [decide_eq_false_iff_not]; omega, trivial⟩
  · refine .inl ⟨_, _, _, _, _, (n + 1, _), toldRound l _ n _ _, ?_, ⟨by simp only; omega, ?_⟩, by simp only; omega⟩
    · simp only [AllP, inI64, decide_eq_true_eq]
      and_intros <;> first | omega | trivial
    · have hx := dig_lt (nv l) n
      have e : BitVec.ofInt 8 ((dig (nv l) n : Nat) : Int) = BitVec.ofNat 8 (nv l / 256 ^ n) := by
        apply BitVec.eq_of_toNat_eq
        rw [BitVec.toNat_ofInt, BitVec.toNat_ofNat, Int.toNat_emod (by omega) (by decide), Int.toNat_natCast]
        exact Nat.mod_mod _ _
      simp only [Int.toNat_natCast, getD_dig hl, e, bl]
      rfl
def spTold : List AV → Option (AV × List Prop)
  | [.val false [.dI l], .val false [.i64 n]] => some (sc (.d8 (bl (nv l) n.toNat)), [IsD l, 0 ≤ n, n ≤ 4000000])
  | _ => none
theorem ctTold : CtSOk Tryz.prog 43 (.fn spTold) := FnS_of_fnS gsAt fol fun ds r cs h hc => by
  unfold spTold at h
  split at h
  case h_2 => simp at h
  rename_i l n
  simp only [Option.some.injEq, Prod.mk.injEq] at h
  obtain ⟨rfl, rfl⟩ := h
  obtain ⟨hl, h0, h1, _⟩ := hc
  obtain ⟨N, rfl⟩ := Int.eq_ofNat_of_zero_le h0
  have hlen := bl_length (nv l) N
  refine use_run (runTold l (N : Nat) N (bl (nv l) N) (N : Nat)) ?_ ⟨toldLoop l hl N (by omega), by omega, trivial⟩
  rw [cutL_eqn hlen.symm, Int.toNat_natCast]

/-! ### A number's digits -/
def digTd : List Nat := [1, 3, 4]
def digTd2 : List Nat := [1, 3, 4, 5, 6]
def digInv (a : N4) (n : Nat) (out : List Int) (i : Int) : St := ⟨slotsOf 28 [(1, sc (.ptr 0 0)), (3, sc (.sl 1 0 n)), (4, sc (.i64 i))], [(0, ⟨true, [.n4 a]⟩), (1, ⟨true, [.vi out.length out]⟩)], 16⟩
def digInv2 (a : N4) (n : Nat) (out : List Int) (i : Int) (w : BitVec 64) (k : Int) : St := ⟨slotsOf 28 [(1, sc (.ptr 0 0)), (3, sc (.sl 1 0 n)), (4, sc (.i64 i)), (5, sc (.u64 w)), (6, sc (.i64 k))], [(0, ⟨true, [.n4 a]⟩), (1, ⟨true, [.vi out.length out]⟩)], 16⟩
theorem digRound2 (a : N4) (n : Nat) (out : List Int) (i : Int) (w : BitVec 64) (k : Int) : roundS Tryz.prog (lookG tblAt) (orcA [(7, [(1, true)])]) [] 10 digTd2 (bodyAt Tryz.prog 124 7) (digInv2 a n out i w k) =
    some (Ex.normal, St.mk (slotsOf 28 [(1, sc (IV.ptr 0 0)), (3, sc (IV.sl 1 0 (n + 1))), (4, sc (IV.i64 i)), (5, sc (IV.u64 (w / BitVec.ofNat 64 256))), (6, sc (IV.i64 (k + (1 : Int))))]) [(0, Blk.mk true [IV.n4 a]), (1, Blk.mk true [IV.vi (out ++ (List.replicate 1 (0 : Int)).set 0 (IntKind.i64.wrap (↑(w % BitVec.ofNat 64 256).toNat : Int))).length (out ++ (List.replicate 1 (0 : Int)).set 0 (IntKind.i64.wrap (↑(w % BitVec.ofNat 64 256).toNat : Int)))])] 16, [decide (k < (8 : Int)) = true, 256 ≠ 0, 1 = 1, n = out.length, (n + 1) * 8 ≤ 140737488355328 ∧ n + 1 ≤ 9223372036854775807, 256 ≠ 0, inI64 (k + (1 : Int))]) := by kernel_rfl
theorem digExit2 (a : N4) (n : Nat) (out : List Int) (i : Int) (w : BitVec 64) (k : Int) : roundS Tryz.prog (lookG tblAt) (orcA [(7, [(1, false)])]) [] 10 digTd2 (bodyAt Tryz.prog 124 7) (digInv2 a n out i w k) =
    some (Ex.exit 2, St.mk (slotsOf 28 [(1, sc (IV.ptr 0 0)), (3, sc (IV.sl 1 0 n)), (4, sc (IV.i64 i)), (5, sc (IV.u64 w)), (6, sc (IV.i64 k))]) [(0, Blk.mk true [IV.n4 a]), (1, Blk.mk true [IV.vi out.length out])] 16, [decide (k < (8 : Int)) = false]) := by kernel_rfl
theorem digRound (a : N4) (n : Nat) (out : List Int) (i : Int) (n2 : Nat) (out2 : List Int) (w : BitVec 64) (k : Int) : roundS Tryz.prog (lookG tblAt) (orcA [(3, [(1, true)])]) [⟨7, digTd2, .exit 2, digInv2 a n2 out2 i w k⟩] 10 digTd (bodyAt Tryz.prog 124 3) (digInv a n out i) =
    some (Ex.normal, St.mk (slotsOf 28 [(1, sc (IV.ptr 0 0)), (3, sc (IV.sl 1 0 n2)), (4, sc (IV.i64 (i + (1 : Int))))]) [(0, Blk.mk true [IV.n4 a]), (1, Blk.mk true [IV.vi out2.length out2])] 16, [decide (i < (4 : Int)) = true, (0 : Int) ≤ i, i.toNat < 4, 0 + i.toNat * 1 < 4, LoopTo Tryz.prog (bodyAt Tryz.prog 124 7) (St.mk (slotsOf 28 [(1, sc (IV.ptr 0 0)), (3, sc (IV.sl 1 0 n)), (4, sc (IV.i64 i)), (5, sc (IV.u64 (a.get (0 + i.toNat * 1)))), (6, sc (IV.i64 (0 : Int)))]) [(0, Blk.mk true [IV.n4 a]), (1, Blk.mk true [IV.vi out.length out])] 16) (Ex.exit 2) (St.mk (slotsOf 28 [(1, sc (IV.ptr 0 0)), (3, sc (IV.sl 1 0 n2)), (4, sc (IV.i64 i)), (5, sc (IV.u64 w)), (6, sc (IV.i64 k))]) [(0, Blk.mk true [IV.n4 a]), (1, Blk.mk true [IV.vi out2.length out2])] 16), inI64 (i + (1 : Int))]) := by kernel_rfl
theorem digExit (a : N4) (n : Nat) (out : List Int) (i : Int) : roundS Tryz.prog (lookG tblAt) (orcA [(3, [(1, false)])]) [] 10 digTd (bodyAt Tryz.prog 124 3) (digInv a n out i) =
    some (Ex.exit 0, St.mk (slotsOf 28 [(1, sc (IV.ptr 0 0)), (3, sc (IV.sl 1 0 n)), (4, sc (IV.i64 i))]) [(0, Blk.mk true [IV.n4 a]), (1, Blk.mk true [IV.vi out.length out])] 16, [decide (i < (4 : Int)) = false]) := by kernel_rfl
theorem runDigits (a : N4) (n : Nat) (out : List Int) (i : Int) : fnS Tryz.prog (lookG tblAt) (orcA []) [⟨3, digTd, .exit 0, digInv a n out i⟩] 10 124 [.val true [.n4 a]] =
    some (sc (IV.dI (cutL out 0 (trimFrom out out.length) out.length)), [LoopTo Tryz.prog (bodyAt Tryz.prog 124 3) (St.mk (slotsOf 28 [(1, sc (IV.ptr 0 0)), (3, sc (IV.sl 1 0 0)), (4, sc (IV.i64 (0 : Int)))]) [(0, Blk.mk true [IV.n4 a]), (1, Blk.mk true [IV.vi 0 []])] 16) (Ex.exit 0) (St.mk (slotsOf 28 [(1, sc (IV.ptr 0 0)), (3, sc (IV.sl 1 0 n)), (4, sc (IV.i64 i))]) [(0, Blk.mk true [IV.n4 a]), (1, Blk.mk true [IV.vi out.length out])] 16), n = out.length, out.length ≤ 1000000000, trimFrom out out.length ≤ n, 0 + trimFrom out out.length ≤ out.length]) := by kernel_rfl

theorem wrap_byte (w : BitVec 64) : IntKind.i64.wrap (((w % BitVec.ofNat 64 256).toNat : Nat) : Int) = ((w.toNat % 256 : Nat) : Int) := by
  have e : (w % BitVec.ofNat 64 256).toNat = w.toNat % 256 := by rw [BitVec.toNat_umod]; rfl
  rw [e]
  exact wrap_in ⟨by omega, by omega⟩
theorem digLoop2 (a : N4) (i : Nat) (hi : i < 4) :
    LoopTo Tryz.prog (bodyAt Tryz.prog 124 7) (digInv2 a (8 * i) (dl (val a) (8 * i)) (i : Nat) (a.get i) 0) (.exit 2) (digInv2 a (8 * i + 8) (dl (val a) (8 * i + 8)) (i : Nat) (BitVec.ofNat 64 ((a.get i).toNat / 256 ^ 8)) 8) := by
  refine LoopTo.intro (α := Nat × Nat × List Int × BitVec 64) gsAt fol (fun s => digInv2 a s.2.1 s.2.2.1 (i : Nat) s.2.2.2 (s.1 : Nat)) (fun s => s.1 ≤ 8 ∧ s.2.1 = 8 * i + s.1 ∧ s.2.2.1 = dl (val a) (8 * i + s.1) ∧ s.2.2.2 = BitVec.ofNat 64 ((a.get i).toNat / 256 ^ s.1)) (fun s => 8 - s.1) (by simp) ?_ (0, 8 * i, dl (val a) (8 * i), a.get i) ⟨by simp, by simp, by simp, by simp⟩
  rintro ⟨k, n, out, w⟩ ⟨hk, hn, ho, hw⟩
  dsimp only at hk hn ho hw ⊢
  subst hn ho hw
  have hl := (dl_ok (val a) (8 * i + k)).1
  by_cases he : k = 8
  · subst he
    exact .inr ⟨_, _, _, _, _, digExit2 a _ _ _ _ _, by simp, trivial⟩
  · have hlt : (a.get i).toNat / 256 ^ k < 2 ^ 64 := Nat.lt_of_le_of_lt (Nat.div_le_self _ _) (a.get i).isLt
    refine .inl ⟨_, _, _, _, _, (k + 1, 8 * i + k + 1, _, _), digRound2 a _ _ _ _ _, ?_, ⟨by simp only; omega, rfl, ?_, ?_⟩, by simp only; omega⟩
    · simp only [AllP, inI64, decide_eq_true_eq]
      and_intros <;> first | omega | trivial
    · simp only [one_set, wrap_byte]
      rw [BitVec.toNat_ofNat, Nat.mod_eq_of_lt hlt, get_dig a hi (by omega)]
      rfl
    · apply BitVec.eq_of_toNat_eq
      rw [BitVec.toNat_udiv, BitVec.toNat_ofNat, BitVec.toNat_ofNat, BitVec.toNat_ofNat, Nat.mod_eq_of_lt hlt]
      have e : (a.get i).toNat / 256 ^ (k + 1) = (a.get i).toNat / 256 ^ k / 256 := by rw [Nat.pow_succ, Nat.div_div_eq_div_mul]
      rw [e, show 256 % 2 ^ 64 = 256 from rfl]
      generalize (a.get i).toNat / 256 ^ k = z at *
      omega
theorem digLoop (a : N4) : LoopTo Tryz.prog (bodyAt Tryz.prog 124 3) (digInv a 0 [] 0) (.exit 0) (digInv a 32 (dl (val a) 32) 4) := by
  refine LoopTo.intro (α := Nat × Nat × List Int) gsAt fol (fun s => digInv a s.2.1 s.2.2 (s.1 : Nat)) (fun s => s.1 ≤ 4 ∧ s.2.1 = 8 * s.1 ∧ s.2.2 = dl (val a) (8 * s.1)) (fun s => 4 - s.1) (by simp) ?_ (0, 0, []) ⟨by simp, rfl, rfl⟩
  rintro ⟨i, n, out⟩ ⟨hi, hn, ho⟩
  dsimp only at hi hn ho ⊢
  subst hn ho
  by_cases he : i = 4
  · subst he
    exact .inr ⟨_, _, _, _, _, digExit a _ _ _, by simp, trivial⟩
  · have hl := digLoop2 a i (by omega)
    have e : a.get (0 + ((i : Nat) : Int).toNat * 1) = a.get i := by rw [Int.toNat_natCast, Nat.zero_add, Nat.mul_one]
    refine .inl ⟨_, _, _, _, _, (i + 1, 8 * i + 8, _), digRound a _ _ _ _ (dl (val a) (8 * i + 8)) (BitVec.ofNat 64 ((a.get i).toNat / 256 ^ 8)) 8, ?_, ⟨by simp only; omega, by simp only; omega, rfl⟩, by simp only; omega⟩
    simp only [AllP, inI64, decide_eq_true_eq, e]
    refine ⟨by omega, by omega, by omega, by omega, hl, by omega, trivial⟩
theorem val_lt' (a : N4) : val a < 256 ^ 32 := val_lt a
def spDigits : List AV → Option (AV × List Prop)
  | [.val true [.n4 a]] => some (sc (.dI (dg (val a))), [])
  | _ => none
theorem ctDigits : CtSOk Tryz.prog 124 (.fn spDigits) := FnS_of_fnS gsAt fol fun ds r cs h hc => by
  unfold spDigits at h
  split at h
  case h_2 => simp at h
  rename_i a
  simp only [Option.some.injEq, Prod.mk.injEq] at h
  obtain ⟨rfl, rfl⟩ := h
  obtain ⟨h1, h2, h3⟩ := dl_ok (val a) 32
  rw [Nat.mod_eq_of_lt (val_lt' a)] at h3
  have t := trimFrom_le (dl (val a) 32) (dl (val a) 32).length
  refine use_run (runDigits a 32 (dl (val a) 32) 4) ?_ ⟨digLoop a, ?_⟩
  · rw [trim_dg h2, h3]
  · simp only [AllP]
    and_intros <;> first | omega | trivial

/-! ### A word of digits -/
def wordTd : List Nat := [0, 1, 5, 6]
def wordInv (l : List Int) (i : Int) (w : BitVec 64) (k : Int) : St := ⟨slotsOf 22 [(0, sc (.sl 0 0 l.length)), (1, sc (.i64 i)), (5, sc (.u64 w)), (6, sc (.i64 k))], [(0, ⟨false, [.vi l.length l]⟩)], 16⟩
theorem wordRound (l : List Int) (i : Int) (w : BitVec 64) (k : Int) : roundS Tryz.prog (lookG tblAt) (orcA [(3, [(1, true)])]) [] 10 wordTd (bodyAt Tryz.prog 129 3) (wordInv l i w k) =
    some (Ex.normal, St.mk (slotsOf 22 [(0, sc (IV.sl 0 0 l.length)), (1, sc (IV.i64 i)), (5, sc (IV.u64 (w * BitVec.ofNat 64 256 + BitVec.ofInt 64 (l.getD ((8 : Int) * i + k).toNat (0 : Int))))), (6, sc (IV.i64 (k - (1 : Int))))]) [(0, Blk.mk false [IV.vi l.length l])] 16, [decide ((0 : Int) ≤ k) = true, inI64 ((8 : Int) * i), inI64 ((8 : Int) * i + k), l.length = l.length, (0 : Int) ≤ (8 : Int) * i + k, inI64 (k - (1 : Int))]) := by kernel_rfl
theorem wordExit (l : List Int) (i : Int) (w : BitVec 64) (k : Int) : roundS Tryz.prog (lookG tblAt) (orcA [(3, [(1, false)])]) [] 10 wordTd (bodyAt Tryz.prog 129 3) (wordInv l i w k) =
    some (Ex.exit 0, St.mk (slotsOf 22 [(0, sc (IV.sl 0 0 l.length)), (1, sc (IV.i64 i)), (5, sc (IV.u64 w)), (6, sc (IV.i64 k))]) [(0, Blk.mk false [IV.vi l.length l])] 16, [decide ((0 : Int) ≤ k) = false]) := by kernel_rfl
theorem runWord (l : List Int) (i : Int) (w : BitVec 64) (k : Int) : fnS Tryz.prog (lookG tblAt) (orcA []) [⟨3, wordTd, .exit 0, wordInv l i w k⟩] 10 129 [sc (.dI l), sc (.i64 i)] =
    some (sc (IV.u64 w), [LoopTo Tryz.prog (bodyAt Tryz.prog 129 3) (St.mk (slotsOf 22 [(0, sc (IV.sl 0 0 l.length)), (1, sc (IV.i64 i)), (5, sc (IV.u64 (BitVec.ofNat 64 0))), (6, sc (IV.i64 (7 : Int)))]) [(0, Blk.mk false [IV.vi l.length l])] 16) (Ex.exit 0) (St.mk (slotsOf 22 [(0, sc (IV.sl 0 0 l.length)), (1, sc (IV.i64 i)), (5, sc (IV.u64 w)), (6, sc (IV.i64 k))]) [(0, Blk.mk false [IV.vi l.length l])] 16)]) := by kernel_rfl
theorem wordLoop (l : List Int) (hl : IsD l) (i : Nat) (hi : i ≤ 4000000) :
    LoopTo Tryz.prog (bodyAt Tryz.prog 129 3) (wordInv l (i : Nat) 0#64 7) (.exit 0) (wordInv l (i : Nat) (wordN (nv l) i) (-1)) := by
  rw [← wAcc_word]
  refine LoopTo.intro (α := Nat × Int × BitVec 64) gsAt fol (fun s => wordInv l (i : Nat) s.2.2 s.2.1) (fun s => s.1 ≤ 8 ∧ s.2.1 = 7 - s.1 ∧ s.2.2 = BitVec.ofNat 64 (wAcc (nv l / 256 ^ (8 * i)) s.1)) (fun s => 8 - s.1) (by simp) ?_ (0, 7, 0#64) ⟨by simp, rfl, by rw [wAcc_zero]⟩
  rintro ⟨j, k, w⟩ ⟨hj, hk, hw⟩
  dsimp only at hj hk hw ⊢
  subst hk hw
  by_cases he : j = 8
  · subst he
    exact .inr ⟨_, _, _, _, _, wordExit l _ _ _, by simp, trivial⟩
  · have e : ((8 : Int) * (i : Nat) + (7 - (j : Nat))).toNat = 8 * i + (7 - j) := by omega
    have e2 : nv l / 256 ^ (8 * i) / 256 ^ (7 - j) % 256 = dig (nv l) (8 * i + (7 - j)) := by rw [Nat.div_div_eq_div_mul, ← Nat.pow_add]; rfl
    refine .inl ⟨_, _, _, _, _, (j + 1, _, _), wordRound l _ _ _, ?_, ⟨by simp only; omega, by simp only; omega, ?_⟩, by simp only; omega⟩
    · simp only [AllP, inI64, decide_eq_true_eq]
      and_intros <;> first | omega | trivial
    · simp only [e, getD_dig hl]
      rw [wAcc_succ _ (by omega), e2]
      apply BitVec.eq_of_toNat_eq
      rw [BitVec.toNat_add, BitVec.toNat_mul, BitVec.toNat_ofInt]
      simp only [BitVec.toNat_ofNat]
      have := dig_lt (nv l) (8 * i + (7 - j))
      generalize dig (nv l) (8 * i + (7 - j)) = x at *
      generalize wAcc (nv l / 256 ^ (8 * i)) j = y at *
      omega
def spWord : List AV → Option (AV × List Prop)
  | [.val false [.dI l], .val false [.i64 i]] => some (sc (.u64 (wordN (nv l) i.toNat)), [IsD l, 0 ≤ i, i ≤ 4000000])
  | _ => none
theorem ctWord : CtSOk Tryz.prog 129 (.fn spWord) := FnS_of_fnS gsAt fol fun ds r cs h hc => by
  unfold spWord at h
  split at h
  case h_2 => simp at h
  rename_i l i
  simp only [Option.some.injEq, Prod.mk.injEq] at h
  obtain ⟨rfl, rfl⟩ := h
  obtain ⟨hl, h0, h1, _⟩ := hc
  obtain ⟨N, rfl⟩ := Int.eq_ofNat_of_zero_le h0
  refine use_run (runWord l (N : Nat) (wordN (nv l) N) (-1)) (by rw [Int.toNat_natCast]) ⟨wordLoop l hl N (by omega), trivial⟩

/-! ### Numbers of digits -/
def tblOf : List (FuncId × CtS) := [(129, .fn spWord)]
theorem gsOf : GSound Tryz.prog (upG (lookG tblOf)) := GSound_of_tbl ⟨⟨ctWord, by kernel_rfl⟩, trivial⟩
theorem runOf (l : List Int) : fnS Tryz.prog (lookG tblOf) (orcOf [5] []) [] 10 114 [sc (.dI l)] =
    some (AV.val true [IV.n4 (((((N4.mk (BitVec.ofNat 64 0) (BitVec.ofNat 64 0) (BitVec.ofNat 64 0) (BitVec.ofNat 64 0)).set 0 (wordN (nv l) 0)).set 1 (wordN (nv l) 1)).set 2 (wordN (nv l) 2)).set 3 (wordN (nv l) 3))], [l.length = l.length, IsD l, (0 : Int) ≤ (0 : Int), (0 : Int) ≤ (4000000 : Int), (0 : Int) ≤ (0 : Int), 0 < 4, 0 < 4, l.length = l.length, IsD l, (0 : Int) ≤ (1 : Int), (1 : Int) ≤ (4000000 : Int), (0 : Int) ≤ (1 : Int), 1 < 4, 1 < 4, l.length = l.length, IsD l, (0 : Int) ≤ (2 : Int), (2 : Int) ≤ (4000000 : Int), (0 : Int) ≤ (2 : Int), 2 < 4, 2 < 4, l.length = l.length, IsD l, (0 : Int) ≤ (3 : Int), (3 : Int) ≤ (4000000 : Int), (0 : Int) ≤ (3 : Int), 3 < 4, 3 < 4]) := by kernel_rfl
def spOf : List AV → Option (AV × List Prop)
  | [.val false [.dI l]] => some (.val true [.n4 (ofN (nv l))], [IsD l])
  | _ => none
theorem ctOf : CtSOk Tryz.prog 114 (.fn spOf) := FnS_of_fnS gsOf fol fun ds r cs h hc => by
  unfold spOf at h
  split at h
  case h_2 => simp at h
  rename_i l
  simp only [Option.some.injEq, Prod.mk.injEq] at h
  obtain ⟨rfl, rfl⟩ := h
  have hl := hc.1
  refine use_run (runOf l) ?_ ?_
  · rw [← words_ofN]; rfl
  · simp only [AllP]
    and_intros <;> first | exact hl | omega | trivial
def spWide : List AV → Option (AV × List Prop)
  | [.val false [.dI l]] => some (.val true [.n4 (ofN (nv l)), .n4 (ofN (nv l / p256))], [IsD l])
  | _ => none
/-! ### 2 to the power of 256 -/
theorem zeros_D (n : Nat) : IsD (List.replicate n 0) := fun d h => by
  have := List.eq_of_mem_replicate h
  omega
theorem nv_replicate : ∀ n, nv (List.replicate n 0) = 0
  | 0 => rfl
  | n + 1 => by simp only [List.replicate_succ, nv, nv_replicate n]; rfl
theorem dg_top (n : Nat) {l : List Int} (hl : IsD l) (h0 : l.getD (l.length - 1) 0 ≠ 0) (hne : l ≠ []) : List.replicate n 0 ++ l = dg (256 ^ n * nv l) := by
  have e : nv (List.replicate n 0 ++ l) = 256 ^ n * nv l := by rw [nv_append, nv_replicate, List.length_replicate]; omega
  rw [← e]
  refine eq_dg (IsD_append (zeros_D n) hl) (.inr ?_)
  have h1 : 0 < l.length := by cases l with
    | nil => exact absurd rfl hne
    | cons a l => simp
  rw [List.getD_eq_getElem?_getD] at h0 ⊢
  rw [List.length_append, List.length_replicate, List.getElem?_append_right (by simp; omega), List.length_replicate]
  have : n + l.length - 1 - n = l.length - 1 := by omega
  rw [this]
  exact h0
theorem power_dg : List.replicate 32 (0 : Int) ++ [1] = dg p256 := by
  have := dg_top 32 (l := [1]) (IsD_cons (by omega) IsD_nil) (by simp) (by simp)
  rw [this]
  rfl
def spPower : List AV → Option (AV × List Prop)
  | [] => some (sc (.dI (dg p256)), [])
  | _ => none
end Go.Proofs.YtlgiaglbdifkpaaGreatDoor
/- Contracts of the document's digit lists, over numbers. Own work. -/
namespace Go.Proofs.YtlgiaglbdifkpaaGreatDoor
open Go.Ev Go.Sp Go.RowKit
set_option maxRecDepth 100000

/-- A number of few digits. -/
def Sm (a : Nat) : Prop := (dg a).length ≤ 4000000
theorem Sm_lt {a k : Nat} (h : a < 256 ^ k) (hk : k ≤ 4000000) : Sm a := Nat.le_trans (dg_length_le h) hk

def spNAt : List AV → Option (AV × List Prop)
  | [.val false [.dN a], .val false [.i64 i]] => some (sc (.i64 ((dig a i.toNat : Nat) : Int)), [0 ≤ i])
  | _ => none
theorem nAt : CtSOk Tryz.prog 88 (.fn spNAt) := FnS_num ctAt fun ds r cs h hc => by
  unfold spNAt at h
  split at h
  case h_2 => simp at h
  rename_i a i
  simp only [Option.some.injEq, Prod.mk.injEq] at h
  obtain ⟨rfl, rfl⟩ := h
  refine ⟨[0 ≤ i], ?_, hc⟩
  show some (sc (.i64 ((dg a).getD i.toNat 0)), _) = _
  rw [getD_dig (dg_D a), nv_dg]
  rfl
def spNSum : List AV → Option (AV × List Prop)
  | [.val false [.dN a], .val false [.dN b]] => some (sc (.dN (a + b)), [Sm a, Sm b])
  | _ => none
theorem nSum : CtSOk Tryz.prog 85 (.fn spNSum) := FnS_num ctSum fun ds r cs h hc => by
  unfold spNSum at h
  split at h
  case h_2 => simp at h
  rename_i a b
  simp only [Option.some.injEq, Prod.mk.injEq] at h
  obtain ⟨rfl, rfl⟩ := h
  refine ⟨[IsD (dg a), IsD (dg b), (dg a).length ≤ 4000000, (dg b).length ≤ 4000000], ?_, ⟨dg_D _, dg_D _, hc⟩⟩
  show some (sc (.dI (dg (nv (dg a) + nv (dg b)))), _) = _
  rw [nv_dg, nv_dg]
  rfl
def spNMinus : List AV → Option (AV × List Prop)
  | [.val false [.dN a], .val false [.dN b]] => some (sc (.dN (a - b)), [b ≤ a, Sm a])
  | _ => none
theorem nMinus : CtSOk Tryz.prog 118 (.fn spNMinus) := FnS_num ctMinus fun ds r cs h hc => by
  unfold spNMinus at h
  split at h
  case h_2 => simp at h
  rename_i a b
  simp only [Option.some.injEq, Prod.mk.injEq] at h
  obtain ⟨rfl, rfl⟩ := h
  refine ⟨[IsD (dg a), IsD (dg b), nv (dg b) ≤ nv (dg a), (dg a).length ≤ 4000000], ?_, ⟨dg_D _, dg_D _, by rw [nv_dg, nv_dg]; exact hc.1, hc.2⟩⟩
  show some (sc (.dI (dg (nv (dg a) - nv (dg b)))), _) = _
  rw [nv_dg, nv_dg]
  rfl
def spNLess : List AV → Option (AV × List Prop)
  | [.val false [.dN a], .val false [.dN b]] => some (sc (.bool (decide (a < b))), [Sm a, Sm b])
  | _ => none
theorem nLess : CtSOk Tryz.prog 70 (.fn spNLess) := FnS_num ctLess fun ds r cs h hc => by
  unfold spNLess at h
  split at h
  case h_2 => simp at h
  rename_i a b
  simp only [Option.some.injEq, Prod.mk.injEq] at h
  obtain ⟨rfl, rfl⟩ := h
  refine ⟨[IsD (dg a), IsD (dg b), (dg a).length ≤ 4000000, (dg b).length ≤ 4000000], ?_, ⟨dg_D _, dg_D _, hc⟩⟩
  show some (sc (.bool (decide (nv (dg a) < nv (dg b)))), _) = _
  rw [nv_dg, nv_dg]
  rfl
def spNRead : List AV → Option (AV × List Prop)
  | [.val false [.d8 b]] => some (sc (.dN (bv b)), [b.length ≤ 4000000])
  | _ => none
theorem nRead : CtSOk Tryz.prog 51 (.fn spNRead) := FnS_num ctRead fun ds r cs h hc => by
  unfold spNRead at h
  split at h
  case h_2 => simp at h
  rename_i b
  simp only [Option.some.injEq, Prod.mk.injEq] at h
  obtain ⟨rfl, rfl⟩ := h
  exact ⟨_, rfl, hc⟩
def spNTold : List AV → Option (AV × List Prop)
  | [.val false [.dN a], .val false [.i64 n]] => some (sc (.d8 (bl a n.toNat)), [0 ≤ n, n ≤ 4000000])
  | _ => none
theorem nTold : CtSOk Tryz.prog 43 (.fn spNTold) := FnS_num ctTold fun ds r cs h hc => by
  unfold spNTold at h
  split at h
  case h_2 => simp at h
  rename_i a n
  simp only [Option.some.injEq, Prod.mk.injEq] at h
  obtain ⟨rfl, rfl⟩ := h
  refine ⟨[IsD (dg a), 0 ≤ n, n ≤ 4000000], ?_, ⟨dg_D _, hc⟩⟩
  show some (sc (.d8 (bl (nv (dg a)) n.toNat)), _) = _
  rw [nv_dg]
  rfl
def spNDigits : List AV → Option (AV × List Prop)
  | [.val true [.n4 a]] => some (sc (.dN (val a)), [])
  | _ => none
theorem nDigits : CtSOk Tryz.prog 124 (.fn spNDigits) := FnS_num ctDigits fun ds r cs h hc => by
  unfold spNDigits at h
  split at h
  case h_2 => simp at h
  rename_i a
  simp only [Option.some.injEq, Prod.mk.injEq] at h
  obtain ⟨rfl, rfl⟩ := h
  exact ⟨_, rfl, hc⟩
def spNOf : List AV → Option (AV × List Prop)
  | [.val false [.dN a]] => some (.val true [.n4 (ofN a)], [])
  | _ => none
theorem nOf : CtSOk Tryz.prog 114 (.fn spNOf) := FnS_num ctOf fun ds r cs h hc => by
  unfold spNOf at h
  split at h
  case h_2 => simp at h
  rename_i a
  simp only [Option.some.injEq, Prod.mk.injEq] at h
  obtain ⟨rfl, rfl⟩ := h
  refine ⟨[IsD (dg a)], ?_, ⟨dg_D _, trivial⟩⟩
  show some (AV.val true [.n4 (ofN (nv (dg a)))], _) = _
  rw [nv_dg]
  rfl
def spNWide : List AV → Option (AV × List Prop)
  | [.val false [.dN a]] => some (.val true [.n4 (ofN a), .n4 (ofN (a / p256))], [])
  | _ => none
def spNPower : List AV → Option (AV × List Prop)
  | [] => some (sc (.dN p256), [])
  | _ => none
def tblN : List (FuncId × CtS) := [(88, .fn spNAt), (85, .fn (orD spNSum)), (118, .fn (orD spNMinus)), (70, .fn (orD spNLess)), (51, .fn spNRead), (43, .fn (orD spNTold)), (124, .fn spNDigits), (114, .fn (orD spNOf)), (97, .pre preTrim)]
theorem okN : TblOk Tryz.prog tblN := ⟨⟨nAt, by kernel_rfl⟩, ⟨FnS_orD nSum, by kernel_rfl⟩, ⟨FnS_orD nMinus, by kernel_rfl⟩, ⟨FnS_orD nLess, by kernel_rfl⟩, ⟨nRead, by kernel_rfl⟩, ⟨FnS_orD nTold, by kernel_rfl⟩, ⟨nDigits, by kernel_rfl⟩, ⟨FnS_orD nOf, by kernel_rfl⟩, ⟨ctTrim, by kernel_rfl⟩, trivial⟩
theorem gsN : GSound Tryz.prog (upG (lookG tblN)) := GSound_of_tbl okN
theorem Sm_of (a : Nat) (h : a < 256 ^ 33) : Sm a := Sm_lt h (by omega)
theorem p33 : (256 : Nat) ^ 33 = 256 * p256 := rfl
theorem Sm_val (a : N4) : Sm (val a) := Sm_of _ (by have := val_lt a; rw [p33]; omega)
end Go.Proofs.YtlgiaglbdifkpaaGreatDoor
