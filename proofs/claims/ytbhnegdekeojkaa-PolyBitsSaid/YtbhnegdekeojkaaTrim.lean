/- The walk of Trim: a list without the noughts at its end. Own work. -/
import Derived.Test.YtbhnegdekeojkaaEvO
import Derived.Test.YtbhnegdekeojkaaChecked
import Derived.WalkKit
namespace Go.Proofs.Ytbhnegdekeojkaa
open Go.Ev Go.RowKit

/-- How long a list is without the noughts at its end. -/
def trimFrom (l : List Int) : Nat → Nat
  | 0 => 0
  | n + 1 => if l.getD n 0 = 0 then trimFrom l n else n + 1
theorem trimFrom_le (l : List Int) : ∀ n, trimFrom l n ≤ n
  | 0 => Nat.le_refl _
  | n + 1 => by
    unfold trimFrom
    split
    · exact Nat.le_succ_of_le (trimFrom_le l n)
    · exact Nat.le_refl _

set_option maxHeartbeats 1000000 in
theorem trim_some (b off len cap : Nat) (zs : List Int) (w : World) (hl : zs.length = len) (hm : len ≤ 1000000000) (hcap : len ≤ cap) (hc : ∀ i, i < len → w.cell? ⟨b, off + i, none⟩ = some (.int .i64 (zs.getD i 0))) :
    Calls Try.prog 28 #[.slice (some ⟨b, off, none⟩) len cap] w fun e w' => e = .returned (.slice (some ⟨b, off, none⟩) (trimFrom zs len) cap) ∧ w' = w := by
  go_enter Try.func28, Try.ntmps28
  go_wp2
  go_loop [3] (fun t => ∃ k : Nat, k ≤ len ∧ t = .int .i64 k ∧ trimFrom zs k = trimFrom zs len) (fun t => (intOf t).toNat)
  case atStart => exact ⟨len, Nat.le_refl _, rfl, rfl⟩
  case round =>
    obtain ⟨k, hk, rfl, ht⟩ := hrel
    cases k with
    | zero =>
      go_wp2
      go_ret
      refine ⟨?_, rfl⟩
      rw [← ht]; rfl
    | succ j =>
      have hcell := hc j (by omega)
      have hj : (((j + 1 : Nat) : Int) - 1) = (j : Int) := by omega
      by_cases h0 : zs.getD j 0 = 0
      · rw [h0] at hcell
        go_wp2
        exact ⟨⟨j, by omega, rfl, by rw [← ht]; simp only [trimFrom, h0, if_true]⟩, by simp [intOf]⟩
      · have hb : (zs[j]?.getD 0 == 0) = false := by
          rw [beq_eq_false_iff_ne]
          rw [List.getD_eq_getElem?_getD] at h0
          exact h0
        go_wp2
        go_ret
        refine ⟨?_, rfl⟩
        rw [← ht]
        simp only [trimFrom, h0, if_false]
        rfl

set_option maxHeartbeats 1000000 in
theorem trim_none (a : Option Addr) (w : World) :
    Calls Try.prog 28 #[.slice a 0 0] w fun e w' => (∃ a', e = .returned (.slice a' 0 0)) ∧ w' = w := by
  go_enter Try.func28, Try.ntmps28
  go_wp2
  go_loop [3] (fun t => t = .int .i64 0) (fun t => (intOf t).toNat)
  case atStart => rfl
  case round =>
    subst hrel
    cases a with
    | none =>
      go_wp2
      go_ret
      exact ⟨⟨none, rfl⟩, rfl⟩
    | some a =>
      go_wp2
      go_ret
      exact ⟨⟨some a, rfl⟩, rfl⟩

def preTrim : IV → Option (Nat × List Prop)
  | .dI l => some (trimFrom l l.length, [l.length ≤ 1000000000])
  | _ => none
theorem ctTrim : CtSOk Try.prog 28 (.pre preTrim) := PreS_intro fun d m cs h hc w a len cap hd => by
  unfold preTrim at h
  split at h
  case h_2 => simp at h
  rename_i l
  simp only [Option.some.injEq, Prod.mk.injEq] at h
  obtain ⟨rfl, rfl⟩ := h
  obtain ⟨v, hv, hr⟩ := hd
  simp only [List.cons.injEq, and_true] at hv
  subst hv
  rcases hr with ⟨blk, off, cap', e, h1, h2, h3⟩ | ⟨e0, e1, a', e⟩
  · simp only [Value.slice.injEq] at e
    obtain ⟨rfl, rfl, rfl⟩ := e
    have hcell : ∀ i, i < l.length → w.cell? ⟨blk, off + i, none⟩ = some (.int .i64 (l.getD i 0)) := fun i hi => h3 i _ (by simp [List.getElem?_eq_getElem hi, intVal])
    refine (trim_some blk off l.length cap l w rfl hc.1 h1 hcell).mono ?_
    rintro e w' ⟨rfl, rfl⟩
    exact ⟨trimFrom_le l _, Below.refl _ _, .inl ⟨cap, rfl, Nat.le_trans (trimFrom_le l _) h1, Nat.le_refl _⟩⟩
  · simp only [Value.slice.injEq] at e
    obtain ⟨rfl, rfl, rfl⟩ := e
    refine (trim_none a w).mono ?_
    rintro e w' ⟨⟨a', rfl⟩, rfl⟩
    have h0 : trimFrom l l.length = 0 := by rw [e0]; rfl
    exact ⟨by omega, Below.refl _ _, .inr ⟨h0, a', rfl⟩⟩
end Go.Proofs.Ytbhnegdekeojkaa
