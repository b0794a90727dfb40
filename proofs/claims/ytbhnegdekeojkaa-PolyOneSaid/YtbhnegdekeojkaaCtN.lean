/- Contracts of the document's digit lists, over numbers. Own work. -/
import Derived.Test.YtbhnegdekeojkaaCtF
namespace Go.Proofs.Ytbhnegdekeojkaa
open Go.Ev Go.Sp Go.RowKit
set_option maxRecDepth 100000

/-- A number of few digits. -/
def Sm (a : Nat) : Prop := (dg a).length ≤ 4000000
theorem Sm_lt {a k : Nat} (h : a < 256 ^ k) (hk : k ≤ 4000000) : Sm a := Nat.le_trans (dg_length_le h) hk

def spNAt : List AV → Option (AV × List Prop)
  | [.val false [.dN a], .val false [.i64 i]] => some (sc (.i64 ((dig a i.toNat : Nat) : Int)), [0 ≤ i])
  | _ => none
theorem nAt : CtSOk Try.prog 29 (.fn spNAt) := FnS_num ctAt fun ds r cs h hc => by
  unfold spNAt at h
  split at h
  case h_2 => simp at h
  rename_i a i
  simp only [Option.some.injEq, Prod.mk.injEq] at h
  obtain ⟨rfl, rfl⟩ := h
  refine ⟨[0 ≤ i], ?_, hc⟩
  show some (sc (.i64 ((dg a).getD i.toNat 0)), _) = _
  rw [getD_dig (dg_D a), nv_dg]
  rfl
def spNSum : List AV → Option (AV × List Prop)
  | [.val false [.dN a], .val false [.dN b]] => some (sc (.dN (a + b)), [Sm a, Sm b])
  | _ => none
theorem nSum : CtSOk Try.prog 20 (.fn spNSum) := FnS_num ctSum fun ds r cs h hc => by
  unfold spNSum at h
  split at h
  case h_2 => simp at h
  rename_i a b
  simp only [Option.some.injEq, Prod.mk.injEq] at h
  obtain ⟨rfl, rfl⟩ := h
  refine ⟨[IsD (dg a), IsD (dg b), (dg a).length ≤ 4000000, (dg b).length ≤ 4000000], ?_, ⟨dg_D _, dg_D _, hc⟩⟩
  show some (sc (.dI (dg (nv (dg a) + nv (dg b)))), _) = _
  rw [nv_dg, nv_dg]
  rfl
def spNMinus : List AV → Option (AV × List Prop)
  | [.val false [.dN a], .val false [.dN b]] => some (sc (.dN (a - b)), [b ≤ a, Sm a])
  | _ => none
theorem nMinus : CtSOk Try.prog 31 (.fn spNMinus) := FnS_num ctMinus fun ds r cs h hc => by
  unfold spNMinus at h
  split at h
  case h_2 => simp at h
  rename_i a b
  simp only [Option.some.injEq, Prod.mk.injEq] at h
  obtain ⟨rfl, rfl⟩ := h
  refine ⟨[IsD (dg a), IsD (dg b), nv (dg b) ≤ nv (dg a), (dg a).length ≤ 4000000], ?_, ⟨dg_D _, dg_D _, by rw [nv_dg, nv_dg]; exact hc.1, hc.2⟩⟩
  show some (sc (.dI (dg (nv (dg a) - nv (dg b)))), _) = _
  rw [nv_dg, nv_dg]
  rfl
def spNLess : List AV → Option (AV × List Prop)
  | [.val false [.dN a], .val false [.dN b]] => some (sc (.bool (decide (a < b))), [Sm a, Sm b])
  | _ => none
theorem nLess : CtSOk Try.prog 30 (.fn spNLess) := FnS_num ctLess fun ds r cs h hc => by
  unfold spNLess at h
  split at h
  case h_2 => simp at h
  rename_i a b
  simp only [Option.some.injEq, Prod.mk.injEq] at h
  obtain ⟨rfl, rfl⟩ := h
  refine ⟨[IsD (dg a), IsD (dg b), (dg a).length ≤ 4000000, (dg b).length ≤ 4000000], ?_, ⟨dg_D _, dg_D _, hc⟩⟩
  show some (sc (.bool (decide (nv (dg a) < nv (dg b)))), _) = _
  rw [nv_dg, nv_dg]
  rfl
def spNRead : List AV → Option (AV × List Prop)
  | [.val false [.d8 b]] => some (sc (.dN (bv b)), [b.length ≤ 4000000])
  | _ => none
theorem nRead : CtSOk Try.prog 19 (.fn spNRead) := FnS_num ctRead fun ds r cs h hc => by
  unfold spNRead at h
  split at h
  case h_2 => simp at h
  rename_i b
  simp only [Option.some.injEq, Prod.mk.injEq] at h
  obtain ⟨rfl, rfl⟩ := h
  exact ⟨_, rfl, hc⟩
def spNTold : List AV → Option (AV × List Prop)
  | [.val false [.dN a], .val false [.i64 n]] => some (sc (.d8 (bl a n.toNat)), [0 ≤ n, n ≤ 4000000])
  | _ => none
theorem nTold : CtSOk Try.prog 24 (.fn spNTold) := FnS_num ctTold fun ds r cs h hc => by
  unfold spNTold at h
  split at h
  case h_2 => simp at h
  rename_i a n
  simp only [Option.some.injEq, Prod.mk.injEq] at h
  obtain ⟨rfl, rfl⟩ := h
  refine ⟨[IsD (dg a), 0 ≤ n, n ≤ 4000000], ?_, ⟨dg_D _, hc⟩⟩
  show some (sc (.d8 (bl (nv (dg a)) n.toNat)), _) = _
  rw [nv_dg]
  rfl
def spNDigits : List AV → Option (AV × List Prop)
  | [.val true [.n4 a]] => some (sc (.dN (val a)), [])
  | _ => none
def spNOf : List AV → Option (AV × List Prop)
  | [.val false [.dN a]] => some (.val true [.n4 (ofN a)], [])
  | _ => none
def spNWide : List AV → Option (AV × List Prop)
  | [.val false [.dN a]] => some (.val true [.n4 (ofN a), .n4 (ofN (a / p256))], [])
  | _ => none
def spNPower : List AV → Option (AV × List Prop)
  | [] => some (sc (.dN p256), [])
  | _ => none
def tblN : List (FuncId × CtS) := [(29, .fn spNAt), (20, .fn (orD spNSum)), (31, .fn (orD spNMinus)), (30, .fn (orD spNLess)), (19, .fn spNRead), (24, .fn (orD spNTold)), (28, .pre preTrim)]
theorem okN : TblOk Try.prog tblN := ⟨⟨nAt, by kernel_rfl⟩, ⟨FnS_orD nSum, by kernel_rfl⟩, ⟨FnS_orD nMinus, by kernel_rfl⟩, ⟨FnS_orD nLess, by kernel_rfl⟩, ⟨nRead, by kernel_rfl⟩, ⟨FnS_orD nTold, by kernel_rfl⟩, ⟨ctTrim, by kernel_rfl⟩, trivial⟩
theorem gsN : GSound Try.prog (upG (lookG tblN)) := GSound_of_tbl okN
theorem p256_pow : p256 = 256 ^ 32 := rfl
theorem Sm_of (a : Nat) (h : a < 256 ^ 33) : Sm a := Sm_lt h (by omega)
theorem p33 : (256 : Nat) ^ 33 = 256 * p256 := rfl
theorem Sm_val (a : N4) : Sm (val a) := Sm_of _ (by have := val_lt a; rw [p33]; omega)
theorem Sm_p256 : Sm p256 := Sm_of _ (by rw [p33]; decide)
theorem Sm_add (a b : N4) : Sm (val a + val b) := Sm_of _ (by have := val_lt a; have := val_lt b; rw [p33]; omega)
theorem Sm_addp (a : N4) : Sm (val a + p256) := Sm_of _ (by have := val_lt a; rw [p33]; omega)
end Go.Proofs.Ytbhnegdekeojkaa
