/- Contracts of layer 2's functions. Own work. -/
import Derived.Test.YtbhnegdekeojkaaEvR
import Derived.Test.YtbhnegdekeojkaaSpC
import Derived.Test.YtbhnegdekeojkaaChecked
namespace Go.Proofs.Ytbhnegdekeojkaa
open Go.Ev Go.Sp Go.RowKit
set_option maxRecDepth 100000

theorem fol : Try.prog.follows .mixedOrders = true := by kernel_rfl

def sp2 (f : N4 → N4 → N4 × BitVec 64) : List AV → Option (AV × List Prop)
  | [.val true [.n4 a], .val true [.n4 b]] => some (.tup [(true, [.n4 (f a b).1]), (false, [.u64 (f a b).2])], [])
  | _ => none
def addV (a b : N4) : N4 × BitVec 64 := (ofN (val a + val b), BitVec.ofNat 64 ((val a + val b) / p256))
def subV (a b : N4) : N4 × BitVec 64 := (ofN (val a + p256 - val b), if val a < val b then 1#64 else 0#64)

theorem gs0 : GSound Try.prog (upG (lookG [])) := GSound_of_tbl (l := []) trivial

theorem runAdd (a b : N4) : fnS Try.prog (lookG []) orc0 [] 10 14 [.val true [.n4 a], .val true [.n4 b]] = some (.tup [(true, [.n4 (addN a b).1]), (false, [.u64 (addN a b).2])], []) := by kernel_rfl
theorem runSub (a b : N4) : fnS Try.prog (lookG []) orc0 [] 10 16 [.val true [.n4 a], .val true [.n4 b]] = some (.tup [(true, [.n4 (subN a b).1]), (false, [.u64 (subN a b).2])], []) := by kernel_rfl

theorem ctAdd : CtSOk Try.prog 14 (.fn (sp2 addV)) := FnS_of_fnS gs0 fol fun ds r cs h _ => by
  unfold sp2 at h
  split at h
  case h_2 => simp at h
  rename_i a b
  simp only [Option.some.injEq, Prod.mk.injEq] at h
  obtain ⟨rfl, rfl⟩ := h
  refine ⟨orc0, [], 10, [], ?_, trivial⟩
  have e := runAdd a b
  rw [addN_eq] at e
  exact e
theorem ctSub : CtSOk Try.prog 16 (.fn (sp2 subV)) := FnS_of_fnS gs0 fol fun ds r cs h _ => by
  unfold sp2 at h
  split at h
  case h_2 => simp at h
  rename_i a b
  simp only [Option.some.injEq, Prod.mk.injEq] at h
  obtain ⟨rfl, rfl⟩ := h
  refine ⟨orc0, [], 10, [], ?_, trivial⟩
  have e := runSub a b
  rw [subN_eq] at e
  exact e

def spPick : List AV → Option (AV × List Prop)
  | [.val false [.u64 x], .val true [.n4 a], .val true [.n4 b]] => some (.val true [.n4 (if x = 0#64 then a else b)], [])
  | _ => none
theorem runPick (x : BitVec 64) (a b : N4) : fnS Try.prog (lookG []) orc0 [] 10 17 [.val false [.u64 x], .val true [.n4 a], .val true [.n4 b]] = some (.val true [.n4 (pickN x a b)], []) := by kernel_rfl
theorem ctPick : CtSOk Try.prog 17 (.fn spPick) := FnS_of_fnS gs0 fol fun ds r cs h _ => by
  unfold spPick at h
  split at h
  case h_2 => simp at h
  rename_i x a b
  simp only [Option.some.injEq, Prod.mk.injEq] at h
  obtain ⟨rfl, rfl⟩ := h
  refine ⟨orc0, [], 10, [], ?_, trivial⟩
  have e := runPick x a b
  rw [pickN_eq] at e
  exact e

def spBit : List AV → Option (AV × List Prop)
  | [.val true [.n4 a], .val false [.i64 i]] => some (sc (.u64 (bitN a i)), [])
  | _ => none
/-! ### The rest of a division -/
def spMod : List AV → Option (AV × List Prop)
  | [.val true [.n4 lo, .n4 hi], .val true [.n4 m]] => some (.tup [(true, [.n4 (modN lo hi m)]), (false, [.i64 (modE m)])], [])
  | _ => none
def tblMod : List (FuncId × CtS) := [(14, .fn (sp2 addV)), (16, .fn (sp2 subV)), (17, .fn spPick)]
theorem gsMod : GSound Try.prog (upG (lookG tblMod)) := GSound_of_tbl ⟨⟨ctAdd, by kernel_rfl⟩, ⟨ctSub, by kernel_rfl⟩, ⟨ctPick, by kernel_rfl⟩, trivial⟩
def modInv (lo hi m : N4) (i : Int) (L : N4) : St := ⟨slotsOf 55 [(2, sc (.ptr 0 0)), (3, sc (.ptr 1 0)), (4, sc (.ptr 2 0)), (6, sc (.ptr 3 0)), (17, sc (.i64 i))],
  [(0, ⟨true, [.vn 2 [lo, hi]]⟩), (1, ⟨true, [.n4 m]⟩), (2, ⟨true, [.n4 ⟨0, 0, 0, 0⟩]⟩), (3, ⟨true, [.n4 L]⟩)], 16⟩
def modT : List Nat := [2, 3, 4, 6, 17]
theorem zero4 (m : N4) : ((m.w0 == 0#64 && (m.w1 == 0#64 && (m.w2 == 0#64 && m.w3 == 0#64))) && true) = decide (val m = 0) := by
  rw [Bool.eq_iff_iff]
  simp only [Bool.and_eq_true, beq_iff_eq, and_true, decide_eq_true_eq]
  constructor
  · rintro ⟨h0, h1, h2, h3⟩
    have : m = ⟨0, 0, 0, 0⟩ := N4_ext h0 h1 h2 h3
    rw [this]; rfl
  · intro h
    have : m = ⟨0, 0, 0, 0⟩ := val_inj (h.trans rfl)
    rw [this]
    exact ⟨rfl, rfl, rfl, rfl⟩

theorem DV_same {w : World} {g : Bool} {l m : List IV} {v : Value} (h : ∀ vs, DLs w l vs → DLs w m vs) (hv : DV w (.val g l) v) : DV w (.val g m) v := by
  obtain ⟨vs, h1, h2⟩ := hv
  exact ⟨vs, h vs h1, h2⟩

end Go.Proofs.Ytbhnegdekeojkaa
