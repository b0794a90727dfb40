/- Texts put together: Trim EvP EvT EvQ EvR. Own work. -/
import Derived.Test.YtlgiaglbdifkpaaGreatDoorMgck
import Derived.Test.YtlgiaglbdifkpaaGreatDoorChecked
import Derived.WalkKit
/- The walk of Trim: a list without the noughts at its end. Own work. -/
namespace Go.Proofs.YtlgiaglbdifkpaaGreatDoor
open Go.Ev Go.RowKit

/-- How long a list is without the noughts at its end. -/
def trimFrom (l : List Int) : Nat → Nat
  | 0 => 0
  | n + 1 => if l.getD n 0 = 0 then trimFrom l n else n + 1
theorem trimFrom_le (l : List Int) : ∀ n, trimFrom l n ≤ n
  | 0 => Nat.le_refl _
  | n + 1 => by
    unfold trimFrom
    split
    · exact Nat.le_succ_of_le (trimFrom_le l n)
    · exact Nat.le_refl _

set_option maxHeartbeats 1000000 in
theorem trim_some (b off len cap : Nat) (zs : List Int) (w : World) (hl : zs.length = len) (hm : len ≤ 1000000000) (hcap : len ≤ cap) (hc : ∀ i, i < len → w.cell? ⟨b, off + i, none⟩ = some (.int .i64 (zs.getD i 0))) :
    Calls Tryz.prog 97 #[.slice (some ⟨b, off, none⟩) len cap] w fun e w' => e = .returned (.slice (some ⟨b, off, none⟩) (trimFrom zs len) cap) ∧ w' = w := by
  go_enter Tryz.func97, Tryz.ntmps97
  go_wp2
  go_loop [3] (fun t => ∃ k : Nat, k ≤ len ∧ t = .int .i64 k ∧ trimFrom zs k = trimFrom zs len) (fun t => (intOf t).toNat)
  case atStart => exact ⟨len, Nat.le_refl _, rfl, rfl⟩
  case round =>
    obtain ⟨k, hk, rfl, ht⟩ := hrel
    cases k with
    | zero =>
      go_wp2
      go_ret
      refine ⟨?_, rfl⟩
      rw [← ht]; rfl
    | succ j =>
      have hcell := hc j (by omega)
      have hj : (((j + 1 : Nat) : Int) - 1) = (j : Int) := by omega
      by_cases h0 : zs.getD j 0 = 0
      · rw [h0] at hcell
        go_wp2
        exact ⟨⟨j, by omega, rfl, by rw [← ht]; simp only [trimFrom, h0, if_true]⟩, by simp [intOf]⟩
      · have hb : (zs[j]?.getD 0 == 0) = false := by
          rw [beq_eq_false_iff_ne]
          rw [List.getD_eq_getElem?_getD] at h0
          exact h0
        go_wp2
        go_ret
        refine ⟨?_, rfl⟩
        rw [← ht]
        simp only [trimFrom, h0, if_false]
        rfl

set_option maxHeartbeats 1000000 in
theorem trim_none (a : Option Addr) (w : World) :
    Calls Tryz.prog 97 #[.slice a 0 0] w fun e w' => (∃ a', e = .returned (.slice a' 0 0)) ∧ w' = w := by
  go_enter Tryz.func97, Tryz.ntmps97
  go_wp2
  go_loop [3] (fun t => t = .int .i64 0) (fun t => (intOf t).toNat)
  case atStart => rfl
  case round =>
    subst hrel
    cases a with
    | none =>
      go_wp2
      go_ret
      exact ⟨⟨none, rfl⟩, rfl⟩
    | some a =>
      go_wp2
      go_ret
      exact ⟨⟨some a, rfl⟩, rfl⟩

def preTrim : IV → Option (Nat × List Prop)
  | .dI l => some (trimFrom l l.length, [l.length ≤ 1000000000])
  | _ => none
theorem ctTrim : CtSOk Tryz.prog 97 (.pre preTrim) := PreS_intro fun d m cs h hc w a len cap hd => by
  unfold preTrim at h
  split at h
  case h_2 => simp at h
  rename_i l
  simp only [Option.some.injEq, Prod.mk.injEq] at h
  obtain ⟨rfl, rfl⟩ := h
  obtain ⟨v, hv, hr⟩ := hd
  simp only [List.cons.injEq, and_true] at hv
  subst hv
  rcases hr with ⟨blk, off, cap', e, h1, h2, h3⟩ | ⟨e0, e1, a', e⟩
  · simp only [Value.slice.injEq] at e
    obtain ⟨rfl, rfl, rfl⟩ := e
    have hcell : ∀ i, i < l.length → w.cell? ⟨blk, off + i, none⟩ = some (.int .i64 (l.getD i 0)) := fun i hi => h3 i _ (by simp [List.getElem?_eq_getElem hi, intVal])
    refine (trim_some blk off l.length cap l w rfl hc.1 h1 hcell).mono ?_
    rintro e w' ⟨rfl, rfl⟩
    exact ⟨trimFrom_le l _, Below.refl _ _, .inl ⟨cap, rfl, Nat.le_trans (trimFrom_le l _) h1, Nat.le_refl _⟩⟩
  · simp only [Value.slice.injEq] at e
    obtain ⟨rfl, rfl, rfl⟩ := e
    refine (trim_none a w).mono ?_
    rintro e w' ⟨⟨a', rfl⟩, rfl⟩
    have h0 : trimFrom l l.length = 0 := by rw [e0]; rfl
    exact ⟨by omega, Below.refl _ _, .inr ⟨h0, a', rfl⟩⟩
end Go.Proofs.YtlgiaglbdifkpaaGreatDoor
/- States that say less: blocks numbered anew, slots forgotten. Own work; no statement of the seat is proved here. -/
namespace Go.Ev
open Go.RowKit

/-- What is kept: blocks (old number, new number), slots, and the number from which blocks are free. -/
structure Tidy where
  ids : List (Nat × Nat)
  keep : List Nat
  next : Nat

def newId : List (Nat × Nat) → Nat → Option Nat
  | [], _ => none
  | p :: r, k => if p.1 = k then some p.2 else newId r k
def oldId : List (Nat × Nat) → Nat → Option Nat
  | [], _ => none
  | p :: r, j => if p.2 = j then some p.1 else oldId r j
def nodupN : List Nat → Bool
  | [] => true
  | a :: r => (r.all fun b => !(b == a)) && nodupN r

def renI (θ : List (Nat × Nat)) : IV → Option IV
  | .sl k off len => (newId θ k).map fun j => .sl j off len
  | .ptr k off => (newId θ k).map fun j => .ptr j off
  | i => some i
def renL (θ : List (Nat × Nat)) : List IV → Option (List IV)
  | [] => some []
  | i :: r => match renI θ i, renL θ r with
    | some x, some l => some (x :: l)
    | _, _ => none
def renP (θ : List (Nat × Nat)) : List (Bool × List IV) → Option (List (Bool × List IV))
  | [] => some []
  | p :: r => match renL θ p.2, renP θ r with
    | some x, some l => some ((p.1, x) :: l)
    | _, _ => none
def renC (θ : List (Nat × Nat)) : List (Nat × Nat) → Option (List (Nat × Nat))
  | [] => some []
  | p :: r => match newId θ p.1, renC θ r with
    | some x, some l => some ((x, p.2) :: l)
    | _, _ => none
def renA (θ : List (Nat × Nat)) : AV → Option AV
  | .any => some .any
  | .val g l => (renL θ l).map (.val g)
  | .tup l => (renP θ l).map .tup
  | .fn f a c => match renP θ a, renC θ c with
    | some x, some y => some (.fn f x y)
    | _, _ => none
def keepN : List Nat → Nat → Bool
  | [], _ => false
  | a :: r, i => if a = i then true else keepN r i
def tidyS (θ : List (Nat × Nat)) (keep : List Nat) : List AV → Nat → Option (List AV)
  | [], _ => some []
  | x :: r, i => match (if keepN keep i then renA θ x else some .any), tidyS θ keep r (i + 1) with
    | some y, some l => some (y :: l)
    | _, _ => none
def tidyH (θ : List (Nat × Nat)) (h : Heap) : List (Nat × Nat) → Option Heap
  | [] => some []
  | p :: r => match hget h p.1, tidyH θ h r with
    | some b, some l => match renL θ b.items with
      | some m => some ((p.2, ⟨b.own, m⟩) :: l)
      | none => none
    | _, _ => none
def tidy (t : Tidy) (σ : St) : Option St :=
  if nodupN (t.ids.map (·.1)) && (nodupN (t.ids.map (·.2)) && t.ids.all fun p => decide (p.2 < t.next)) then
    match tidyS t.ids t.keep σ.slots 0, tidyH t.ids σ.heap t.ids with
    | some s, some h => some ⟨s, h, t.next⟩
    | _, _ => none
  else none

theorem nodupN_ok : ∀ {l : List Nat}, nodupN l = true → l.Nodup := by
  intro l
  induction l with
  | nil => intro _; exact List.nodup_nil
  | cons a r ih =>
    intro h
    simp only [nodupN, Bool.and_eq_true, List.all_eq_true] at h
    refine List.nodup_cons.2 ⟨fun hm => ?_, ih h.2⟩
    have := h.1 a hm
    simp at this

theorem oldId_mem : ∀ {θ : List (Nat × Nat)} {p : Nat × Nat}, (θ.map (·.2)).Nodup → p ∈ θ → oldId θ p.2 = some p.1 := by
  intro θ
  induction θ with
  | nil => intro p _ h; simp at h
  | cons q r ih =>
    intro p hn hm
    rw [List.map_cons, List.nodup_cons] at hn
    simp only [oldId]
    rcases List.mem_cons.1 hm with rfl | hm
    · simp
    · rw [if_neg, ih hn.2 hm]
      intro e
      exact hn.1 (e ▸ List.mem_map_of_mem hm)
theorem newId_mem : ∀ {θ : List (Nat × Nat)} {k j : Nat}, newId θ k = some j → (k, j) ∈ θ
  | [], _, _, h => by simp [newId] at h
  | p :: r, k, j, h => by
    simp only [newId] at h
    split at h
    · rename_i e; simp at h; subst e; subst h; exact List.mem_cons_self ..
    · exact List.mem_cons_of_mem _ (newId_mem h)
theorem oldId_some : ∀ {θ : List (Nat × Nat)} {j k : Nat}, oldId θ j = some k → (k, j) ∈ θ
  | [], _, _, h => by simp [oldId] at h
  | p :: r, j, k, h => by
    simp only [oldId] at h
    split at h
    · rename_i e; simp at h; subst e; subst h; exact List.mem_cons_self ..
    · exact List.mem_cons_of_mem _ (oldId_some h)

def reρ (θ : List (Nat × Nat)) (ρ : Nat → Pl) : Nat → Pl := fun j => match oldId θ j with | some k => ρ k | none => .un

section
variable {θ : List (Nat × Nat)} {ρ : Nat → Pl}
theorem reρ_new (hn : (θ.map (·.2)).Nodup) {k j : Nat} (h : newId θ k = some j) : reρ θ ρ j = ρ k := by
  have := oldId_mem hn (newId_mem h)
  simp only [reρ, this]
theorem renI_ok (hn : (θ.map (·.2)).Nodup) {i j : IV} {vs : List Value} (h : renI θ i = some j) (hv : ICells ρ i vs) : ICells (reρ θ ρ) j vs := by
  cases i
  case sl k off len =>
    simp [renI] at h
    obtain ⟨x, hx, rfl⟩ := h
    simp only [ICells, reρ_new hn hx]
    exact hv
  case ptr k off =>
    simp [renI] at h
    obtain ⟨x, hx, rfl⟩ := h
    simp only [ICells, reρ_new hn hx]
    exact hv
  all_goals (simp [renI] at h; subst h; exact hv)
theorem renL_ok (hn : (θ.map (·.2)).Nodup) : ∀ {l m : List IV} {vs : List Value}, renL θ l = some m → LCells ρ l vs → LCells (reρ θ ρ) m vs
  | [], m, vs, h, hv => by simp [renL] at h; subst h; exact hv
  | i :: r, m, vs, h, ⟨a, b, hab, ha, hb⟩ => by
    simp only [renL] at h
    split at h
    case h_2 => simp at h
    rename_i x l hx hl
    simp at h
    subst h
    exact ⟨a, b, hab, renI_ok hn hx ha, renL_ok hn hl hb⟩
theorem renP_ok (hn : (θ.map (·.2)).Nodup) : ∀ {l m : List (Bool × List IV)} {vs : List Value}, renP θ l = some m → F2 (VR1 ρ) l vs → F2 (VR1 (reρ θ ρ)) m vs
  | [], m, vs, h, hv => by
    simp [renP] at h
    subst h
    match vs, hv with
    | [], _ => trivial
  | p :: r, m, v :: vs, h, ⟨⟨us, h1, h2⟩, h3⟩ => by
    simp only [renP] at h
    split at h
    case h_2 => simp at h
    rename_i x l hx hl
    simp at h
    subst h
    exact ⟨⟨us, renL_ok hn hx h1, h2⟩, renP_ok hn hl h3⟩
theorem renC_ok (hn : (θ.map (·.2)).Nodup) : ∀ {l m : List (Nat × Nat)} {vs : List Value}, renC θ l = some m → F2 (fun p c => ICells ρ (.ptr p.1 p.2) [c]) l vs → F2 (fun p c => ICells (reρ θ ρ) (.ptr p.1 p.2) [c]) m vs
  | [], m, vs, h, hv => by
    simp [renC] at h
    subst h
    match vs, hv with
    | [], _ => trivial
  | p :: r, m, v :: vs, h, ⟨h1, h3⟩ => by
    simp only [renC] at h
    split at h
    case h_2 => simp at h
    rename_i x l hx hl
    simp at h
    subst h
    refine ⟨?_, renC_ok hn hl h3⟩
    simp only [ICells, reρ_new hn hx]
    exact h1
theorem renA_ok (hn : (θ.map (·.2)).Nodup) {x y : AV} {v : Value} (h : renA θ x = some y) (hv : VRepr ρ x v) : VRepr (reρ θ ρ) y v := by
  cases x
  case any => simp [renA] at h; subst h; trivial
  case val g l =>
    simp [renA] at h
    obtain ⟨m, hm, rfl⟩ := h
    obtain ⟨us, h1, h2⟩ := hv
    exact ⟨us, renL_ok hn hm h1, h2⟩
  case tup l =>
    simp [renA] at h
    obtain ⟨m, hm, rfl⟩ := h
    obtain ⟨us, h1, h2⟩ := hv
    exact ⟨us, h1, renP_ok hn hm h2⟩
  case fn f a c =>
    simp only [renA] at h
    split at h
    case h_2 => simp at h
    rename_i x' y' hx hy
    simp at h
    subst h
    obtain ⟨fs, cs, h1, h2, h3⟩ := hv
    exact ⟨fs, cs, h1, renP_ok hn hx h2, renC_ok hn hy h3⟩
theorem tidyS_ok (hn : (θ.map (·.2)).Nodup) {keep : List Nat} : ∀ {l m : List AV} {i : Nat} {vs : List Value}, tidyS θ keep l i = some m → F2 (VRepr ρ) l vs → F2 (VRepr (reρ θ ρ)) m vs
  | [], m, i, vs, h, hv => by
    simp [tidyS] at h
    subst h
    match vs, hv with
    | [], _ => trivial
  | x :: r, m, i, v :: vs, h, ⟨h1, h2⟩ => by
    simp only [tidyS] at h
    split at h
    case h_2 => simp at h
    rename_i y l hy hl
    simp at h
    subst h
    refine ⟨?_, tidyS_ok hn hl h2⟩
    split at hy
    · exact renA_ok hn hy h1
    · simp at hy; subst hy; trivial
end

theorem tidyH_mem {θ : List (Nat × Nat)} {h : Heap} : ∀ {l : List (Nat × Nat)} {h' : Heap}, tidyH θ h l = some h' → ∀ {j : Nat} {b : Blk}, hget h' j = some b → ∃ k c, (k, j) ∈ l ∧ hget h k = some c ∧ renL θ c.items = some b.items ∧ b.own = c.own
  | [], h', ht, j, b, hj => by simp [tidyH] at ht; subst ht; simp [hget] at hj
  | p :: r, h', ht, j, b, hj => by
    simp only [tidyH] at ht
    split at ht
    case h_2 => simp at ht
    rename_i c l hc hl
    split at ht <;> simp at ht
    rename_i m hm
    subst ht
    simp only [hget] at hj
    split at hj
    · rename_i e
      simp at hj
      subst hj
      subst e
      exact ⟨p.1, c, List.mem_cons_self .., hc, hm, rfl⟩
    · obtain ⟨k, c', h1, h2⟩ := tidyH_mem hl hj
      exact ⟨k, c', List.mem_cons_of_mem _ h1, h2⟩

theorem Weak_tidy {t : Tidy} {σ σ' : St} (h : tidy t σ = some σ') : Weak σ σ' := by
  intro base ρ a w hr
  unfold tidy at h
  split at h
  case isFalse => simp at h
  rename_i hc
  simp only [Bool.and_eq_true, List.all_eq_true] at hc
  obtain ⟨hc1, hc2, hc3⟩ := hc
  have hn1 := nodupN_ok hc1
  have hn2 := nodupN_ok hc2
  split at h
  case h_2 => simp at h
  rename_i s h' hs hh
  simp at h
  subst h
  have hold : HOk base.heap.size ρ w (hget σ.heap) := hr.heap
  refine ⟨reρ t.ids ρ, hr.defers, tidyS_ok hn2 hs hr.slots, ?_, hr.below, fun k hk hu => ?_⟩
  · refine ⟨fun j b hj => ?_, fun j j' b b' hj hj' hne ho L L' hL hL' => ?_⟩
    · obtain ⟨k, c, h1, h2, h3, h4⟩ := tidyH_mem hh hj
      have hρ : reρ t.ids ρ j = ρ k := by
        have := oldId_mem hn2 h1
        simp only [reρ, this]
      have hb := hold.blk k c h2
      unfold BlkOk at hb ⊢
      rw [hρ]
      split
      · rename_i e; simp only [e] at hb
      · rename_i e; simp only [e] at hb; exact renL_ok hn2 h3 hb
      · rename_i L e
        simp only [e] at hb
        obtain ⟨vs, b1, b2, b3⟩ := hb
        exact ⟨vs, renL_ok hn2 h3 b1, fun ho => b2 (h4 ▸ ho), fun ho => b3 (h4 ▸ ho)⟩
    · obtain ⟨k, c, h1, h2, h3, h4⟩ := tidyH_mem hh hj
      obtain ⟨k', c', h1', h2', h3', h4'⟩ := tidyH_mem hh hj'
      have hρ : reρ t.ids ρ j = ρ k := by
        have := oldId_mem hn2 h1
        simp only [reρ, this]
      have hρ' : reρ t.ids ρ j' = ρ k' := by
        have := oldId_mem hn2 h1'
        simp only [reρ, this]
      rw [hρ] at hL
      rw [hρ'] at hL'
      refine hold.inj k k' c c' h2 h2' (fun e => hne ?_) (h4 ▸ ho) L L' hL hL'
      subst e
      have gen : ∀ (l : List (Nat × Nat)), (l.map (·.1)).Nodup → (k, j) ∈ l → (k, j') ∈ l → j = j' := by
        intro l
        induction l with
        | nil => intro _ h; simp at h
        | cons p r ih =>
          intro hn ha hb
          rw [List.map_cons, List.nodup_cons] at hn
          rcases List.mem_cons.1 ha with e1 | m1 <;> rcases List.mem_cons.1 hb with e2 | m2
          · have := e1.trans e2.symm; simpa using this
          · exact absurd (by have := List.mem_map_of_mem (f := (·.1)) m2; rw [← e1]; exact this) hn.1
          · exact absurd (by have := List.mem_map_of_mem (f := (·.1)) m1; rw [← e2]; exact this) hn.1
          · exact ih hn.2 m1 m2
      exact gen _ hn1 h1 h1'
  · exfalso
    unfold reρ at hu
    split at hu
    · rename_i k' hk'
      have := hc3 _ (oldId_some hk')
      simp at this hk
      omega
    · exact hu rfl

/-! ### Which blocks are kept: those that the kept slots reach, numbered as they come -/
def addN (l : List Nat) (k : Nat) : List Nat := if keepN l k then l else l ++ [k]
def idsI (l : List Nat) : IV → List Nat
  | .sl k _ _ => addN l k
  | .ptr k _ => addN l k
  | _ => l
def idsL : List IV → List Nat → List Nat
  | [], l => l
  | i :: r, l => idsL r (idsI l i)
def idsP : List (Bool × List IV) → List Nat → List Nat
  | [], l => l
  | p :: r, l => idsP r (idsL p.2 l)
def idsC : List (Nat × Nat) → List Nat → List Nat
  | [], l => l
  | p :: r, l => idsC r (addN l p.1)
def idsA (l : List Nat) : AV → List Nat
  | .any => l
  | .val _ m => idsL m l
  | .tup m => idsP m l
  | .fn _ a c => idsC c (idsP a l)
def idsS (keep : List Nat) : List AV → Nat → List Nat → List Nat
  | [], _, l => l
  | x :: r, i, l => idsS keep r (i + 1) (if keepN keep i then idsA l x else l)
def idsH (h : Heap) : List Nat → List Nat → List Nat
  | [], l => l
  | k :: r, l => idsH h r (match hget h k with | some b => idsL b.items l | none => l)
def numb : List Nat → Nat → List (Nat × Nat)
  | [], _ => []
  | k :: r, i => (k, i) :: numb r (i + 1)
def autoT (keep : List Nat) (σ : St) : Tidy :=
  let l := idsS keep σ.slots 0 []
  let l := idsH σ.heap l l
  let l := idsH σ.heap l l
  ⟨numb l 0, keep, 16⟩
def tidyK (keep : List Nat) (σ : St) : Option St := tidy (autoT keep σ) σ
theorem Weak_tidyK {keep : List Nat} {σ σ' : St} (h : tidyK keep σ = some σ') : Weak σ σ' := Weak_tidy h
end Go.Ev
/- Calls of closures in a region of the text's order: what the closure's code comes to is a condition. Own work; no statement of the seat is proved here. -/
namespace Go.Ev
open Go.RowKit

section
variable {P : Program} {Γ : FuncId → Option Ct} {ops : Array Oper}
/-- Operations n to n + m of a region in the order of the text. -/
theorem ops_from (hΓ : GSound P Γ) {N : Nat} {base : World} {mask : Nat → Msk} {Q : Exit → Act → World → Prop} {s' : FSt} {ρ : Nat → Pl} {tail : List Nat} {e : Nat}
    (hQ : ∀ ρ' a w, Ext ρ ρ' → RelF N base ρ' a w s' (fun j => decide (j < e)) → wpOps P ops Q tail a w) :
    ∀ (m k : Nat) (ρ1 : Nat → Pl) (a : Act) (w : World) (s : FSt), Ext ρ ρ1 → k + m = e → RelF N base ρ1 a w s (fun j => decide (j < k)) → runF P Γ N mask ops m k s = some s' → wpOps P ops Q (List.range' k m ++ tail) a w := by
  intro m
  induction m with
  | zero =>
    intro k ρ1 a w s hx hk hr hs
    simp [runF] at hs
    subst hs
    have : k = e := by omega
    subst this
    exact hQ ρ1 a w hx hr
  | succ m ih =>
    intro k ρ1 a w s hx hk hr hs
    simp only [runF] at hs
    split at hs
    case h_2 => simp at hs
    rename_i s1 hs1
    rw [List.range'_succ, List.cons_append, wpOps_cons]
    refine astep_sound hΓ hr (by simp) hs1 fun ρ' a' w' hx' hr' => ?_
    refine ih (k + 1) ρ' a' w' s1 (hx.trans hx') (by omega) ⟨hr'.defers, hr'.slots, hr'.heap, hr'.below, fun j hj hu => ?_⟩ hs
    have := hr'.fresh j hj hu
    simp at this ⊢
    omega
end

/-- What a closure's call comes to: from a state of the caller's memory to one in which all that was known stands where it stood. -/
structure CloTo (P : Program) (g : FuncId) (args : List AV) (heap : Heap) (next : Nat) (r : AV) (heap' : Heap) (next' : Nat) : Prop where
  can : callable P g = true
  calls : ∀ (base : World) (ρ : Nat → Pl) (w : World) (vals : List Value), F2 (VRepr ρ) args vals → HOk base.heap.size ρ w (hget heap) → BelowG base w → (∀ k, next ≤ k → ρ k = .un) →
    Calls P g vals.toArray w fun e w' => ∃ v ρ', e = .returned v ∧ Ext ρ ρ' ∧ VRepr ρ' r v ∧ HOk base.heap.size ρ' w' (hget heap') ∧ BelowG base w' ∧ ∀ k, next' ≤ k → ρ' k = .un

def ptrsA (l : List (Nat × Nat)) : List AV := l.map fun p => sc (.ptr p.1 p.2)
def inlCall (o : Oper) (slots : List AV) : Option (FuncId × List AV × Option Tmp) :=
  match o.guard, o.op with
  | none, .call c =>
    match c.callee with
    | .value f =>
      match aeval slots f with
      | .fn g first cap => some (g, first.map (fun p => .val p.1 p.2) ++ c.args.toList.map (aeval slots) ++ ptrsA cap, o.dst)
      | _ => none
    | _ => none
  | _, _ => none

theorem ptrsA_ok {ρ : Nat → Pl} : ∀ {l : List (Nat × Nat)} {cs : List Value}, F2 (fun p c => ICells ρ (.ptr p.1 p.2) [c]) l cs → F2 (VRepr ρ) (ptrsA l) cs
  | [], [], _ => trivial
  | _ :: _, _ :: _, ⟨h, h'⟩ => ⟨VRepr_sc.2 h, ptrsA_ok h'⟩

theorem runL_runF' {P : Program} {Γ : FuncId → Option Ct} {N : Nat} {mask : Nat → Msk} {ops : Array Oper} : ∀ (l : List Oper) (k : Nat) (slots : List AV) (heap : Heap) (q : List AV × Heap),
    (∀ i, i < l.length → l[i]? = ops[k + i]?) → runL P Γ N mask ops l k slots heap = some q → runF P Γ N mask ops l.length k ⟨slots, hget heap⟩ = some ⟨q.1, hget q.2⟩ := by
  intro l
  induction l with
  | nil => intro k slots heap q _ h; simp [runL] at h; subst h; rfl
  | cons o r ih =>
    intro k slots heap q hl h
    simp only [runL] at h
    split at h
    case h_2 => simp at h
    rename_i q1 hq1
    simp only [List.length_cons, runF]
    rw [stepL_astep (by have := hl 0 (by simp); simpa using this.symm) hq1]
    exact ih (k + 1) q1.1 q1.2 q (fun i hi => by have := hl (i + 1) (by simpa using hi); simpa [Nat.add_assoc, Nat.add_comm 1 i] using this) h

section
variable {P : Program} {Q : Exit → St → Prop} {σ : St}
theorem T.regionInl {Γ : FuncId → Option Ct} (hΓ : GSound P Γ) {id : Nat} {ops : Array Oper} {q p : List AV × Heap} {o : Oper} {g : FuncId} {args : List AV} {dst : Option Tmp} {m : Inl}
    (h : runL P Γ σ.next seqMask ops (ops.toList.take m.pos) 0 σ.slots σ.heap = some q) (ho : ops[m.pos]? = some o) (hl : inlCall o q.1 = some (g, args, dst))
    (hC : CloTo P g args q.2 (σ.next + 16 * ops.size) m.res m.heap m.next) (h2 : runL P Γ m.next seqMask ops (ops.toList.drop (m.pos + 1)) (m.pos + 1) (putS q.1 dst m.res) m.heap = some p)
    (hq : Q .normal ⟨p.1, p.2, m.next + 16 * ops.size⟩) : T P (.region id ops false) σ Q := by
  intro base ρ a w hr
  unfold inlCall at hl
  split at hl
  case h_2 => simp at hl
  rename_i c hg hop
  split at hl
  case h_2 => simp at hl
  rename_i f hc
  split at hl
  case h_2 => simp at hl
  rename_i g' first cap hf
  simp only [Option.some.injEq, Prod.mk.injEq] at hl
  obtain ⟨rfl, rfl, rfl⟩ := hl
  obtain ⟨hcal, hC⟩ := hC
  have hlt : m.pos < ops.size := by
    rcases Nat.lt_or_ge m.pos ops.size with h' | h'
    · exact h'
    · simp [Array.getElem?_eq_none h'] at ho
  obtain ⟨n, hn⟩ : ∃ n, n = m.pos := ⟨_, rfl⟩
  rw [← hn] at ho h h2 hlt
  have hdl : (ops.toList.take n).length = n := by simp; omega
  have hF := runL_runF' (ops.toList.take n) 0 σ.slots σ.heap q (fun i hi => by
    rw [hdl] at hi
    rw [Nat.zero_add, List.getElem?_take_of_lt hi]
    simp) h
  rw [hdl] at hF
  have hdl2 : (ops.toList.drop (n + 1)).length = ops.size - (n + 1) := by simp
  have hF2 := runL_runF' (ops.toList.drop (n + 1)) (n + 1) (putS q.1 o.dst m.res) m.heap p (fun i hi => by simp) h2
  rw [hdl2] at hF2
  refine wp_region ?_
  have hrange : List.range ops.size = List.range' 0 n ++ (n :: (List.range' (n + 1) (ops.size - (n + 1)) ++ [])) := by
    rw [List.range_eq_range', List.append_nil, ← List.range'_succ, show ops.size - (n + 1) + 1 = ops.size - n by omega]
    have := List.range'_append (s := 0) (m := n) (n := ops.size - n) (step := 1)
    simp only [Nat.zero_add, Nat.one_mul] at this
    rw [this]
    congr 1
    omega
  rw [hrange]
  refine ops_from hΓ (e := n) (ρ := ρ) (fun ρ' a' w' hx hr' => ?_) n 0 ρ a w _ (Ext.refl ρ) (by omega) ⟨hr.defers, hr.slots, hr.heap, hr.below, fun j hj hu => by have := hr.fresh j hj hu; simp at this⟩ hF
  rw [wpOps_cons]
  unfold wpOp
  simp only [ho]
  have hw : Region.wanted o (yielded ops a'.tmps) = true := by simp [Region.wanted, hg]
  rw [hw]
  simp only [if_true]
  left
  have hfv := aeval_ok hr'.slots f
  have hfe : aeval q.1 f = .fn g' first cap := hf
  rw [show (⟨q.1, hget q.2⟩ : FSt).slots = q.1 from rfl, hfe] at hfv
  obtain ⟨fs, cs, h1, h3, h4⟩ := hfv
  have hargs : F2 (VRepr ρ') (first.map (fun p => AV.val p.1 p.2) ++ c.args.toList.map (aeval q.1) ++ ptrsA cap) (fs ++ c.args.toList.map a'.eval ++ cs) :=
    F2.append (F2.append (F2_vals h3) (F2_mapv (aeval_ok hr'.slots) c.args.toList)) (ptrsA_ok h4)
  have hun : ∀ k, σ.next + 16 * ops.size ≤ k → ρ' k = .un := fun k hk => by
    by_cases hu : ρ' k = .un
    · exact hu
    · have := hr'.fresh k (by omega) hu
      simp at this
      omega
  have hcalls := hC base ρ' w' _ hargs hr'.heap hr'.below hun
  unfold Oper.wp
  have hexec : (execOp a'.eval o).run P w' = .ok (.enter g' (fs ++ c.args.toList.map a'.eval ++ cs).toArray) w' := by
    simp only [execOp, hop, hc, resolve, h1, Deferred.ofValue, Sem.run_bind, Sem.run_pure, Result.andThen_ok, invoke]
    have : (fs.toArray ++ Array.map a'.eval c.args ++ cs.toArray) = (fs ++ c.args.toList.map a'.eval ++ cs).toArray := by simp
    rw [this, run_callFunc hcal]
  rw [hexec]
  show Calls P g' _ w' _
  refine hcalls.mono ?_
  rintro e w'' ⟨v, ρ'', rfl, hx2, hv, hh, hb, hfr⟩
  have hrel : RelF m.next base ρ'' (a'.put o.dst v) w'' ⟨putS q.1 o.dst m.res, hget m.heap⟩ (fun j => decide (j < n + 1)) := by
    refine ⟨?_, putS_ok (F2.imp (fun _ _ => VRepr.ext hx2) hr'.slots) o.dst hv, hh, hb, fun k hk hu => absurd (hfr k hk) hu⟩
    have := hr'.defers
    cases o.dst <;> exact this
  refine ops_from hΓ (e := ops.size) (ρ := ρ'') (fun ρ3 a3 w3 _ hr3 => ?_) (ops.size - (n + 1)) (n + 1) ρ'' _ w'' _ (Ext.refl ρ'') (by omega) hrel hF2
  refine ⟨_, ρ3, hq, hr3.defers, hr3.slots, hr3.heap, hr3.below, fun k hk hu => ?_⟩
  have hk' : m.next ≤ k := by simp at hk; omega
  have := hr3.fresh k hk' hu
  simp at this hk
  omega
end
end Go.Ev
/- Code evaluated with conditions, loops by what they come to. Own work; no statement of the seat is proved here. -/
namespace Go.Ev
open Go.RowKit

/-- The number of the first region. -/
def firstR : Code → Option Nat
  | .region id _ _ => some id
  | .seq x y => match firstR x with
    | some i => some i
    | none => firstR y
  | .cond _ x y => match firstR x with
    | some i => some i
    | none => firstR y
  | .block _ c => firstR c
  | .loop c => firstR c
  | .scope c => firstR c
  | _ => none
/-- The body of the loop that begins with region k. -/
def loopAt (k : Nat) : Code → Option Code
  | .seq x y => match loopAt k x with
    | some c => some c
    | none => loopAt k y
  | .cond _ x y => match loopAt k x with
    | some c => some c
    | none => loopAt k y
  | .block _ c => loopAt k c
  | .scope c => loopAt k c
  | .loop c => if firstR c = some k then some c else loopAt k c
  | _ => none
def bodyAt (P : Program) (f k : Nat) : Code :=
  match P.funcs[f]? with
  | some fn => match fn.body with
    | some c => (loopAt k c).getD .skip
    | none => .skip
  | none => .skip

/-- What a loop comes to, from σ on. -/
def LoopTo (P : Program) (c : Code) (σ : St) (e : Ex) (σ' : St) : Prop := ∀ Q : Exit → St → Prop, Q e.up σ' → T P (.loop c) σ Q

structure Sum where
  key : Nat
  keep : List Nat
  e : Ex
  out : St
def sumAt : List Sum → Option Nat → Option Sum
  | [], _ => none
  | s :: r, k => if some s.key = k then some s else sumAt r k

def loopS (f : St → Option (Ex × St × List Prop)) : Nat → St → Option (Ex × St × List Prop)
  | 0, _ => none
  | n + 1, s => match f s with
    | some (.normal, s', cs) => match loopS f n s' with
      | some (e, t, ds) => some (e, t, cs ++ ds)
      | none => none
    | r => r

/-! ### Results with conditions -/
def isVd (get : Nat → Option Blk) (k : Nat) : Bool :=
  match get k with
  | some b => match b.items with
    | [.vd _] => true
    | _ => false
  | none => false
def outIS (get : Nat → Option Blk) : IV → Option (IV × List Use × List Prop)
  | .sl k off len =>
    match get k, rowOfS (isVd get k) get k off len with
    | some b, some (r, cs) => let own := b.own && off == 0
      if b.own && outOk own r then some (outR own r, [⟨k, off, len, own⟩], cs) else none
    | _, _ => none
  | i => (outI get i).map fun q => (q.1, q.2, [])
theorem outIS_ok {get : Nat → Option Blk} {i j : IV} {us : List Use} {cs : List Prop} (h : outIS get i = some (j, us, cs)) (hc : AllP cs) : outI get i = some (j, us) := by
  unfold outIS at h
  split at h
  · rename_i k off len
    split at h
    case h_2 => simp at h
    rename_i b r cs' hb hr
    simp only at h
    split at h <;> simp at h
    rename_i ho
    obtain ⟨rfl, rfl, rfl⟩ := h
    simp only [outI, hb, rowOfS_ok hr hc]
    rw [if_pos ho]
  · cases ha : outI get i with
    | none => simp [ha] at h
    | some q => simp [ha] at h; obtain ⟨rfl, rfl, rfl⟩ := h; rfl
def outLS (get : Nat → Option Blk) : List IV → Option (List IV × List Use × List Prop)
  | [] => some ([], [], [])
  | i :: r => match outIS get i, outLS get r with
    | some x, some l => some (x.1 :: l.1, x.2.1 ++ l.2.1, x.2.2 ++ l.2.2)
    | _, _ => none
theorem outLS_ok {get : Nat → Option Blk} : ∀ {l m : List IV} {us : List Use} {cs : List Prop}, outLS get l = some (m, us, cs) → AllP cs → outL get l = some (m, us)
  | [], m, us, cs, h, _ => by simp [outLS] at h; obtain ⟨rfl, rfl, rfl⟩ := h; rfl
  | i :: r, m, us, cs, h, hc => by
    simp only [outLS] at h
    split at h
    case h_2 => simp at h
    rename_i x l hx hl
    simp at h
    obtain ⟨rfl, rfl, rfl⟩ := h
    obtain ⟨q1, q2⟩ := AllP_append hc
    simp only [outL, outIS_ok hx q1, outLS_ok hl q2]
def outTS (get : Nat → Option Blk) : List (Bool × List IV) → Option (List (Bool × List IV) × List Use × List Prop)
  | [] => some ([], [], [])
  | p :: r => match outLS get p.2, outTS get r with
    | some x, some l => some ((p.1, x.1) :: l.1, x.2.1 ++ l.2.1, x.2.2 ++ l.2.2)
    | _, _ => none
theorem outTS_ok {get : Nat → Option Blk} : ∀ {l m : List (Bool × List IV)} {us : List Use} {cs : List Prop}, outTS get l = some (m, us, cs) → AllP cs → outT get l = some (m, us)
  | [], m, us, cs, h, _ => by simp [outTS] at h; obtain ⟨rfl, rfl, rfl⟩ := h; rfl
  | p :: r, m, us, cs, h, hc => by
    simp only [outTS] at h
    split at h
    case h_2 => simp at h
    rename_i x l hx hl
    simp at h
    obtain ⟨rfl, rfl, rfl⟩ := h
    obtain ⟨q1, q2⟩ := AllP_append hc
    simp only [outT, outLS_ok hx q1, outTS_ok hl q2]

section
variable (P : Program) (Γ : FuncId → Option CtS) (orc : Nat → Orc) (sums : List Sum) (fuel : Nat)
def evInl (h : Orc) (m : Inl) (ops : Array Oper) (draw : Bool) (s : St) : Option (Ex × St × List Prop) :=
  if draw then none else
  match runS P Γ h s.next seqMask ops (ops.toList.take m.pos) 0 s.slots s.heap with
  | none => none
  | some q =>
    match ops[m.pos]? with
    | none => none
    | some o =>
      match inlCall o q.1 with
      | none => none
      | some (g, args, dst) =>
        match runS P Γ h m.next seqMask ops (ops.toList.drop (m.pos + 1)) (m.pos + 1) (putS q.1 dst m.res) m.heap with
        | none => none
        | some p => some (.normal, ⟨p.1, p.2.1, m.next + 16 * ops.size⟩, CloTo P g args q.2.1 (s.next + 16 * ops.size) m.res m.heap m.next :: (q.2.2 ++ p.2.2))
def evS : Code → St → Option (Ex × St × List Prop)
  | .skip, s => some (.normal, s, [])
  | .region id ops draw, s => match (orc id).inl with
    | none => (evRS P Γ (orc id) ops draw s).map fun t => (.normal, t.1, t.2)
    | some m => evInl P Γ (orc id) m ops draw s
  | .seq x y, s => match evS x s with
    | some (.normal, s', cs) => match evS y s' with
      | some (e, t, ds) => some (e, t, cs ++ ds)
      | none => none
    | r => r
  | .cond c x y, s => match aeval s.slots c with
    | .val false [.bool true] => evS x s
    | .val false [.bool false] => evS y s
    | _ => none
  | .block id c, s => match evS c s with
    | some (.exit id', s', cs) => if id' = id then some (.normal, s', cs) else some (.exit id', s', cs)
    | r => r
  | .loop c, s => match sumAt sums (firstR c) with
    | some m => match tidyK m.keep s with
      | some s1 => some (m.e, m.out, [LoopTo P c s1 m.e m.out])
      | none => none
    | none => loopS (fun t => evS c t) fuel s
  | .scope c, s => evS c s
  | .exit id, s => some (.exit id, s, [])
  | .label _, s => some (.normal, s, [])
  | .ret, s => some (.ret, s, [])
  | _, _ => none

def roundS (keep : List Nat) (c : Code) (s : St) : Option (Ex × St × List Prop) :=
  match evS P Γ orc sums fuel c s with
  | some (e, t, cs) => (tidyK keep t).map fun u => (e, u, cs)
  | none => none

/-- A function's answer. -/
def fnS (f : FuncId) (ds : List AV) : Option (AV × List Prop) :=
  match P.funcs[f]? with
  | none => none
  | some fn => match fn.body with
    | none => none
    | some c => match evS P Γ orc sums fuel c (entry fn.ntmps ds) with
      | some (.exit _, _, _) => none
      | some (_, σ, cs) => match ares P σ fn.results.toList with
        | some m => match outTS (hget σ.heap) m with
          | some (o, us, c2) => if usesOK us then some (aresV o, cs ++ c2) else none
          | none => none
        | none => none
      | none => none
end

section
variable {P : Program} {Γ : FuncId → Option CtS} {orc : Nat → Orc} {sums : List Sum} {fuel : Nat}

theorem evInl_ok (hΓ : GSound P (upG Γ)) {h : Orc} {m : Inl} {id : Nat} {ops : Array Oper} {draw : Bool} {σ σ' : St} {e : Ex} {cs : List Prop} {Q : Exit → St → Prop} (he : evInl P Γ h m ops draw σ = some (e, σ', cs)) (hc : AllP cs) (hq : Q e.up σ') : T P (.region id ops draw) σ Q := by
  unfold evInl at he
  split at he
  · simp at he
  rename_i hd
  split at he
  · simp at he
  rename_i q hq1
  split at he
  · simp at he
  rename_i o ho
  split at he
  · simp at he
  rename_i g args dst hl
  split at he
  · simp at he
  rename_i p hp
  simp only [Option.some.injEq, Prod.mk.injEq] at he
  obtain ⟨rfl, rfl, rfl⟩ := he
  obtain ⟨c1, c2⟩ := hc
  obtain ⟨c2, c3⟩ := AllP_append c2
  have hd' : draw = false := by simpa using hd
  subst hd'
  exact T.regionInl hΓ (q := (q.1, q.2.1)) (p := (p.1, p.2.1)) (runS_ok _ _ _ _ _ hq1 c2) ho hl c1 (runS_ok _ _ _ _ _ hp c3) hq
/-- Code that is evaluated with conditions. -/
theorem T.runS (hΓ : GSound P (upG Γ)) (hm : P.follows .mixedOrders = true) : ∀ (c : Code) {σ σ' : St} {e : Ex} {cs : List Prop} {Q : Exit → St → Prop}, evS P Γ orc sums fuel c σ = some (e, σ', cs) → AllP cs → Q e.up σ' → T P c σ Q := by
  intro c
  induction c with
  | skip => intro σ σ' e cs Q h _ hq; simp [evS] at h; obtain ⟨rfl, rfl, rfl⟩ := h; exact T.skip hq
  | region id ops draw =>
    intro σ σ' e cs Q h hc hq
    simp only [evS] at h
    split at h
    · cases hr : evRS P Γ (orc id) ops draw σ with
      | none => simp [hr] at h
      | some t => simp [hr] at h; obtain ⟨rfl, rfl, rfl⟩ := h; exact T.region hΓ hm (evRS_ok hr hc) hq
    · exact evInl_ok hΓ h hc hq
  | seq x y ihx ihy =>
    intro σ σ' e cs Q h hc hq
    simp only [evS] at h
    refine T.seq ?_
    cases hx : evS P Γ orc sums fuel x σ with
    | none => simp [hx] at h
    | some r =>
      obtain ⟨e1, s1, c1⟩ := r
      rw [hx] at h
      cases e1 with
      | normal =>
        simp only at h
        cases hy : evS P Γ orc sums fuel y s1 with
        | none => simp [hy] at h
        | some r =>
          obtain ⟨e2, s2, c2⟩ := r
          rw [hy] at h
          simp at h
          obtain ⟨rfl, rfl, rfl⟩ := h
          obtain ⟨q1, q2⟩ := AllP_append hc
          exact ihx hx q1 (show T P y s1 Q from ihy hy q2 hq)
      | exit id => simp at h; obtain ⟨rfl, rfl, rfl⟩ := h; exact ihx hx hc hq
      | ret => simp at h; obtain ⟨rfl, rfl, rfl⟩ := h; exact ihx hx hc hq
  | cond c x y ihx ihy =>
    intro σ σ' e cs Q h hc hq
    simp only [evS] at h
    split at h
    · rename_i hb; exact T.cond (b := true) hb (ihx h hc hq)
    · rename_i hb; exact T.cond (b := false) hb (ihy h hc hq)
    · simp at h
  | block id c ih =>
    intro σ σ' e cs Q h hc hq
    simp only [evS] at h
    refine T.block ?_
    cases hx : evS P Γ orc sums fuel c σ with
    | none => simp [hx] at h
    | some r =>
      obtain ⟨e1, s1, c1⟩ := r
      rw [hx] at h
      cases e1 with
      | normal => simp at h; obtain ⟨rfl, rfl, rfl⟩ := h; exact ih hx hc hq
      | exit id' =>
        simp only at h
        split at h
        · rename_i he
          simp at h
          obtain ⟨rfl, rfl, rfl⟩ := h
          refine ih hx hc ?_
          show (if id' = id then Q .normal s1 else Q (.exit id') s1)
          rw [if_pos he]; exact hq
        · rename_i he
          simp at h
          obtain ⟨rfl, rfl, rfl⟩ := h
          refine ih hx hc ?_
          show (if id' = id then Q .normal s1 else Q (.exit id') s1)
          rw [if_neg he]; exact hq
      | ret => simp at h; obtain ⟨rfl, rfl, rfl⟩ := h; exact ih hx hc hq
  | loop c ih =>
    intro σ σ' e cs Q h hc hq
    simp only [evS] at h
    split at h
    · rename_i m hm
      split at h
      case h_2 => simp at h
      rename_i s1 hs1
      simp at h
      obtain ⟨rfl, rfl, rfl⟩ := h
      exact T.weak (Weak_tidyK hs1) (hc.1 Q hq)
    · refine T.loopI (fun n s => ∃ cs, loopS (fun t => evS P Γ orc sums fuel c t) n s = some (e, σ', cs) ∧ AllP cs) ⟨fuel, σ, Weak.refl σ, cs, h, hc⟩ fun n s hI => ?_
      obtain ⟨cs, hI, hcs⟩ := hI
      cases n with
      | zero => simp [loopS] at hI
      | succ n =>
        simp only [loopS] at hI
        split at hI
        · rename_i s1 c1 hs1
          split at hI
          case h_2 => simp at hI
          rename_i e2 t2 c2 h2
          simp at hI
          obtain ⟨rfl, rfl, rfl⟩ := hI
          obtain ⟨q1, q2⟩ := AllP_append hcs
          exact ih hs1 q1 ⟨n, s1, Nat.lt_succ_self n, Weak.refl s1, c2, h2, q2⟩
        · rename_i hne
          cases e with
          | normal => exact absurd hI (hne σ' cs)
          | exit id => exact ih hI hcs hq
          | ret => exact ih hI hcs hq
  | scope c ih =>
    intro σ σ' e cs Q h hc hq
    simp only [evS] at h
    refine T.scope (ih h hc ?_)
    cases e <;> exact hq
  | exit id => intro σ σ' e cs Q h _ hq; simp [evS] at h; obtain ⟨rfl, rfl, rfl⟩ := h; exact T.exit hq
  | label l => intro σ σ' e cs Q h _ hq; simp [evS] at h; obtain ⟨rfl, rfl, rfl⟩ := h; exact T.label hq
  | ret => intro σ σ' e cs Q h _ hq; simp [evS] at h; obtain ⟨rfl, rfl, rfl⟩ := h; exact T.ret hq
  | goto l => intro σ σ' e cs Q h; simp [evS] at h
  | rangeFunc f p a b => intro σ σ' e cs Q h; simp [evS] at h
  | refuse w => intro σ σ' e cs Q h; simp [evS] at h

/-- A LOOP, BY AN INVARIANT: each round leads from one state of the family to another one, nearer to the end, or to where the loop is left. -/
theorem LoopTo.intro (hΓ : GSound P (upG Γ)) (hm : P.follows .mixedOrders = true) {c : Code} {e : Ex} {σ' : St} {α : Type} (inv : α → St) (ok : α → Prop) (meas : α → Nat) (he : e ≠ .normal)
    (step : ∀ a, ok a → (∃ orc sums fuel keep cs a', roundS P Γ orc sums fuel keep c (inv a) = some (.normal, inv a', cs) ∧ AllP cs ∧ ok a' ∧ meas a' < meas a) ∨
      (∃ orc sums fuel keep cs, roundS P Γ orc sums fuel keep c (inv a) = some (e, σ', cs) ∧ AllP cs)) (a : α) (ha : ok a) : LoopTo P c (inv a) e σ' := by
  intro Q hq
  refine T.loopI (fun n s => ∃ a, ok a ∧ s = inv a ∧ meas a = n) ⟨meas a, inv a, Weak.refl _, a, ha, rfl, rfl⟩ ?_
  rintro n s ⟨a, ha, rfl, rfl⟩
  rcases step a ha with ⟨orc, sums, fuel, keep, cs, a', hr, hc, hok, hlt⟩ | ⟨orc, sums, fuel, keep, cs, hr, hc⟩
  · unfold roundS at hr
    split at hr
    case h_2 => simp at hr
    rename_i e1 t1 c1 h1
    cases ht : tidyK keep t1 with
    | none => simp [ht] at hr
    | some u =>
      simp [ht] at hr
      obtain ⟨rfl, rfl, rfl⟩ := hr
      exact T.runS hΓ hm c h1 hc ⟨meas a', inv a', hlt, Weak_tidyK ht, a', hok, rfl, rfl⟩
  · unfold roundS at hr
    split at hr
    case h_2 => simp at hr
    rename_i e1 t1 c1 h1
    cases ht : tidyK keep t1 with
    | none => simp [ht] at hr
    | some u =>
      simp [ht] at hr
      obtain ⟨rfl, rfl, rfl⟩ := hr
      intro base ρ a w hrel
      refine wp_mono (T.runS (Q := fun e' s => e' = e1.up ∧ s = t1) hΓ hm c h1 hc ⟨rfl, rfl⟩ base ρ a w hrel) ?_
      rintro e' a' w' ⟨s, ρ', ⟨rfl, rfl⟩, hrel'⟩
      obtain ⟨ρ2, hrel2⟩ := Weak_tidyK ht base ρ' a' w' hrel'
      refine ⟨u, ρ2, ?_, hrel2⟩
      cases e1 with
      | normal => exact absurd rfl he
      | exit id => exact hq
      | ret => exact hq

theorem calls_of_fnS (hΓ : GSound P (upG Γ)) (hm : P.follows .mixedOrders = true) {f : FuncId} {ds : List AV} {r : AV} {cs : List Prop} (h : fnS P Γ orc sums fuel f ds = some (r, cs)) (hc : AllP cs)
    (w : World) (vals : List Value) (hv : F2 (DV w) ds vals) : CallsG P f vals.toArray w fun e w' => ∃ v, e = .returned v ∧ Below w.heap.size w w' ∧ ResOk w.heap.size w' r v := by
  unfold fnS at h
  split at h
  · simp at h
  rename_i fn hf
  split at h
  · simp at h
  rename_i c hb
  have fin : ∀ (e : Ex) (σ : St) (cs' : List Prop), evS P Γ orc sums fuel c (entry fn.ntmps ds) = some (e, σ, cs') → (e.up = .normal ∨ e.up = .ret) →
      (match ares P σ fn.results.toList with
        | some m => match outTS (hget σ.heap) m with
          | some (o, us, c2) => if usesOK us then some (aresV o, cs' ++ c2) else none
          | none => none
        | none => none) = some (r, cs) → CallsG P f vals.toArray w fun e w' => ∃ v, e = .returned v ∧ Below w.heap.size w w' ∧ ResOk w.heap.size w' r v := by
    intro e σ cs' he hup hq
    split at hq
    case h_2 => simp at hq
    rename_i m hm1
    split at hq
    case h_2 => simp at hq
    rename_i o us c2 ho
    split at hq <;> simp at hq
    rename_i hu
    obtain ⟨h1, rfl⟩ := hq
    obtain ⟨q1, q2⟩ := AllP_append hc
    exact calls_of_T hf hb (T.runS hΓ hm c he q1 ⟨hup, m, m, o, us, hm1, TSame.rfl', outTS_ok ho q2, hu, h1⟩) w vals hv
  split at h
  · simp at h
  · rename_i e σ cs' hne he
    refine fin e σ cs' he ?_ h
    cases e with
    | normal => exact .inl rfl
    | ret => exact .inr rfl
    | exit id => exact absurd rfl (hne id)
  · simp at h

/-- THE CONTRACT, from the evaluator's answers. -/
theorem FnS_of_fnS (hΓ : GSound P (upG Γ)) (hm : P.follows .mixedOrders = true) {f : FuncId} {spec : List AV → Option (AV × List Prop)}
    (h : ∀ ds r cs, spec ds = some (r, cs) → AllP cs → ∃ orc sums fuel cs', fnS P Γ orc sums fuel f ds = some (r, cs') ∧ AllP cs') : FnS P f spec :=
  FnS_intro fun ds r cs hs hc w vals hv => let ⟨_, _, _, _, h1, h2⟩ := h ds r cs hs hc; calls_of_fnS hΓ hm h1 h2 w vals hv
end
end Go.Ev
/- Small words for states and answers. Own work; no statement of the seat is proved here. -/
namespace Go.Ev
open Go.RowKit

def lookA : List (Nat × AV) → Nat → AV
  | [], _ => .any
  | p :: r, i => if p.1 = i then p.2 else lookA r i
def slotsFrom (l : List (Nat × AV)) : Nat → Nat → List AV
  | 0, _ => []
  | n + 1, i => lookA l i :: slotsFrom l n (i + 1)
/-- So many slots, of which these are told. -/
def slotsOf (n : Nat) (l : List (Nat × AV)) : List AV := slotsFrom l n 0

def bitsAt : List (Nat × List (Nat × Bool)) → Nat → List (Nat × Bool)
  | [], _ => []
  | p :: r, i => if p.1 = i then p.2 else bitsAt r i
/-- Regions that are taken as symbols, and bools that are told. -/
def orcOf (syms : List Nat) (bits : List (Nat × List (Nat × Bool))) (n : Nat) : Orc := ⟨keepN syms n, bitsAt bits n, [], none⟩
/-- All regions are taken as symbols. -/
def orcA (bits : List (Nat × List (Nat × Bool))) (n : Nat) : Orc := ⟨true, bitsAt bits n, [], none⟩
def partsAt : List (Nat × List Nat) → Nat → List Nat
  | [], _ => []
  | p :: r, i => if p.1 = i then p.2 else partsAt r i
/-- As orcA; at these places slices are parts of their blocks. -/
def orcP (bits : List (Nat × List (Nat × Bool))) (parts : List (Nat × List Nat)) (n : Nat) : Orc := ⟨true, bitsAt bits n, partsAt parts n, none⟩
def inlAt : List (Nat × Inl) → Nat → Option Inl
  | [], _ => none
  | p :: r, i => if p.1 = i then some p.2 else inlAt r i
/-- As orcP; in these regions a closure is called. -/
def orcI (bits : List (Nat × List (Nat × Bool))) (parts : List (Nat × List Nat)) (inls : List (Nat × Inl)) (n : Nat) : Orc := ⟨true, bitsAt bits n, partsAt parts n, inlAt inls n⟩
def orc0 (_ : Nat) : Orc := ⟨false, [], [], none⟩
def orc1 (_ : Nat) : Orc := ⟨true, [], [], none⟩

theorem use_run {P : Program} {Γ : FuncId → Option CtS} {orc : Nat → Orc} {sums : List Sum} {fuel : Nat} {f : FuncId} {ds : List AV} {r r' : AV} {cs : List Prop} (h : fnS P Γ orc sums fuel f ds = some (r', cs)) (hr : r' = r) (hc : AllP cs) :
    ∃ orc sums fuel cs', fnS P Γ orc sums fuel f ds = some (r, cs') ∧ AllP cs' := ⟨_, _, _, _, hr ▸ h, hc⟩
end Go.Ev
