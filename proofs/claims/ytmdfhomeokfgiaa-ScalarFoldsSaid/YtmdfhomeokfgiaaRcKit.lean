/- What the rows of this layer share. Own work; no statement of the seat is proved here. -/
import Derived.Test.YtmdfhomeokfgiaaEvN
import Derived.Test.YtmdfhomeokfgiaaScB
import Derived.Test.YtmdfhomeokfgiaaRows
namespace Go.Proofs.Ytmdfhomeokfgiaa
open Go.Ev Go.Sp Go.ChangeShapes Go.WideShapes Go.RowKit
set_option maxRecDepth 100000

theorem own : ownKnob Try.prog.godebug = none := by kernel_rfl
theorem laidOut : laidOutB Try.prog = true := by kernel_rfl
theorem resBool {B : Nat} {w : World} {v : Value} {b : Bool} (h : ResOk B w (sc (.bool b)) v) : v = .bool b := by
  obtain ⟨ρ, _, _, h1, _⟩ := h 0
  have := VRepr_sc.1 h1
  simp [ICells, PCells] at this
  exact this.symm
theorem openNum {H : Type} {enc : TypeId × Value → H} {W : World} {v : Value} {d : DataW H} {ps : List MemPlace} {base : Nat} (hval : Value.okWide Try.prog W .any base 24 v) (hd : DataW.Trod enc Try.prog W 0 (fun _ => true) true 24 v d ps) :
    ∃ a : N4, DV W (.val true [.n4 a]) v := open_num (e := 22) (by kernel_rfl) (by kernel_rfl) (by kernel_rfl) (by kernel_rfl) hval hd
theorem openNumA {H : Type} {enc : TypeId × Value → H} {W : World} {v : Value} {d : DataW H} {ps : List MemPlace} {base : Nat} (hval : Value.okWide Try.prog W .any base 38 v) (hd : DataW.Trod enc Try.prog W 0 (fun _ => true) true 38 v d ps) :
    ∃ a : N4, DV W (.val true [.n4 a]) v := open_num (e := 22) (by kernel_rfl) (by kernel_rfl) (by kernel_rfl) (by kernel_rfl) hval hd
theorem open_boolV {H : Type} {enc : TypeId × Value → H} {W : World} {t : TypeId} {v : Value} {d : DataW H} {ps : List MemPlace} {base : Nat} (ht : Try.prog.underlying t = some .bool) (hval : Value.okWide Try.prog W .any base t v) (hd : DataW.Trod enc Try.prog W 0 (fun _ => true) true t v d ps) :
    ∃ b : Bool, DV W (sc (.bool b)) v := by
  obtain ⟨b, rfl, _⟩ := open_bool ht hval hd
  exact ⟨b, ⟨[.bool b], ⟨[.bool b], [], rfl, rfl, rfl⟩, rfl⟩⟩
theorem openNums {H : Type} {enc : TypeId × Value → H} {W : World} {v : Value} {d : DataW H} {ps : List MemPlace} {base : Nat} (hval : Value.okWide Try.prog W .any base 32 v) (hd : DataW.Trod enc Try.prog W 0 (fun _ => true) true 32 v d ps) :
    ∃ l : List N4, DV W (sc (.dn l)) v ∧ (l = [] ∨ ∃ elems spare, d = .slice elems spare ∧ l.length ≤ elems.length) := open_dn (e := 24) (e0 := 22) (by kernel_rfl) (by kernel_rfl) (by kernel_rfl) (by kernel_rfl) (by kernel_rfl) hval hd
theorem Sm_mod (n : Nat) : Sm (n % Lo) := Sm_le (Nat.lt_trans (mod_Lo n) (by decide))
theorem Sm_sum2 (a b : Nat) : Sm (a % Lo + b % Lo) := Sm_le (by
  have h1 := mod_Lo a
  have h2 := mod_Lo b
  exact Nat.lt_trans (Nat.add_lt_add h1 h2) (by decide))
theorem Sm_mul2 (a b : Nat) : Sm (a % Lo * (b % Lo)) := Sm_le (Nat.lt_trans (Nat.mul_lt_mul'' (mod_Lo a) (mod_Lo b)) (by decide))
theorem addS_val (a b : N4) : val (addS a b) = (val a % Lo + val b % Lo) % Lo := redV _
theorem mulS_val (a b : N4) : val (mulS a b) = (val a % Lo * (val b % Lo)) % Lo := redV _
theorem negS_val (a : N4) : val (negS a) = (Lo - val a % Lo) % Lo := redV _
theorem addS_assoc (a b c : N4) : addS a (addS b c) = addS (addS a b) c := by
  apply val_inj
  simp only [addS_val, Nat.mod_mod, Nat.add_mod_mod, Nat.mod_add_mod, Nat.add_assoc]
theorem addS_comm (a b : N4) : addS a b = addS b a := by
  apply val_inj
  simp only [addS_val, Nat.add_mod_mod, Nat.mod_add_mod, Nat.add_comm]
theorem mulS_assoc (a b c : N4) : mulS a (mulS b c) = mulS (mulS a b) c := by
  apply val_inj
  simp only [mulS_val, Nat.mod_mod, Nat.mul_mod_mod, Nat.mod_mul_mod, Nat.mul_assoc]
theorem mulS_comm (a b : N4) : mulS a b = mulS b a := by
  apply val_inj
  simp only [mulS_val]
  rw [Nat.mul_comm]
theorem mulS_add (a b c : N4) : mulS a (addS b c) = addS (mulS a b) (mulS a c) := by
  apply val_inj
  simp only [mulS_val, addS_val, Nat.mod_mod, Nat.mul_mod_mod, Nat.add_mod_mod, Nat.mod_add_mod]
  rw [Nat.mul_add]
theorem addS_neg (a : N4) : addS a (negS a) = ⟨0#64, 0#64, 0#64, 0#64⟩ := by
  apply val_inj
  rw [addS_val, negS_val, Nat.mod_mod, Nat.add_mod_mod]
  have h := mod_Lo (val a)
  have : val a % Lo + (Lo - val a % Lo) = Lo := by omega
  rw [this, Nat.mod_self]
  rfl
end Go.Proofs.Ytmdfhomeokfgiaa
