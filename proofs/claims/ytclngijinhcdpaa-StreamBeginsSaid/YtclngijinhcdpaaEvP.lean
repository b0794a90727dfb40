/- States that say less: blocks numbered anew, slots forgotten. Own work; no statement of the seat is proved here. -/
import Derived.Test.YtclngijinhcdpaaEvO
namespace Go.Ev
open Go.RowKit

/-- What is kept: blocks (old number, new number), slots, and the number from which blocks are free. -/
structure Tidy where
  ids : List (Nat × Nat)
  keep : List Nat
  next : Nat

def newId : List (Nat × Nat) → Nat → Option Nat
  | [], _ => none
  | p :: r, k => if p.1 = k then some p.2 else newId r k
def oldId : List (Nat × Nat) → Nat → Option Nat
  | [], _ => none
  | p :: r, j => if p.2 = j then some p.1 else oldId r j
def nodupN : List Nat → Bool
  | [] => true
  | a :: r => (r.all fun b => !(b == a)) && nodupN r

def renI (θ : List (Nat × Nat)) : IV → Option IV
  | .sl k off len => (newId θ k).map fun j => .sl j off len
  | .ptr k off => (newId θ k).map fun j => .ptr j off
  | i => some i
def renL (θ : List (Nat × Nat)) : List IV → Option (List IV)
  | [] => some []
  | i :: r => match renI θ i, renL θ r with
    | some x, some l => some (x :: l)
    | _, _ => none
def renP (θ : List (Nat × Nat)) : List (Bool × List IV) → Option (List (Bool × List IV))
  | [] => some []
  | p :: r => match renL θ p.2, renP θ r with
    | some x, some l => some ((p.1, x) :: l)
    | _, _ => none
def renC (θ : List (Nat × Nat)) : List (Nat × Nat) → Option (List (Nat × Nat))
  | [] => some []
  | p :: r => match newId θ p.1, renC θ r with
    | some x, some l => some ((x, p.2) :: l)
    | _, _ => none
def renA (θ : List (Nat × Nat)) : AV → Option AV
  | .any => some .any
  | .val g l => (renL θ l).map (.val g)
  | .tup l => (renP θ l).map .tup
  | .fn f a c => match renP θ a, renC θ c with
    | some x, some y => some (.fn f x y)
    | _, _ => none
def keepN : List Nat → Nat → Bool
  | [], _ => false
  | a :: r, i => if a = i then true else keepN r i
def tidyS (θ : List (Nat × Nat)) (keep : List Nat) : List AV → Nat → Option (List AV)
  | [], _ => some []
  | x :: r, i => match (if keepN keep i then renA θ x else some .any), tidyS θ keep r (i + 1) with
    | some y, some l => some (y :: l)
    | _, _ => none
def tidyH (θ : List (Nat × Nat)) (h : Heap) : List (Nat × Nat) → Option Heap
  | [] => some []
  | p :: r => match hget h p.1, tidyH θ h r with
    | some b, some l => match renL θ b.items with
      | some m => some ((p.2, ⟨b.own, m⟩) :: l)
      | none => none
    | _, _ => none
def tidy (t : Tidy) (σ : St) : Option St :=
  if nodupN (t.ids.map (·.1)) && (nodupN (t.ids.map (·.2)) && t.ids.all fun p => decide (p.2 < t.next)) then
    match tidyS t.ids t.keep σ.slots 0, tidyH t.ids σ.heap t.ids with
    | some s, some h => some ⟨s, h, t.next⟩
    | _, _ => none
  else none

theorem nodupN_ok : ∀ {l : List Nat}, nodupN l = true → l.Nodup := by
  intro l
  induction l with
  | nil => intro _; exact List.nodup_nil
  | cons a r ih =>
    intro h
    simp only [nodupN, Bool.and_eq_true, List.all_eq_true] at h
    refine List.nodup_cons.2 ⟨fun hm => ?_, ih h.2⟩
    have := h.1 a hm
    simp at this

theorem oldId_mem : ∀ {θ : List (Nat × Nat)} {p : Nat × Nat}, (θ.map (·.2)).Nodup → p ∈ θ → oldId θ p.2 = some p.1 := by
  intro θ
  induction θ with
  | nil => intro p _ h; simp at h
  | cons q r ih =>
    intro p hn hm
    rw [List.map_cons, List.nodup_cons] at hn
    simp only [oldId]
    rcases List.mem_cons.1 hm with rfl | hm
    · simp
    · rw [if_neg, ih hn.2 hm]
      intro e
      exact hn.1 (e ▸ List.mem_map_of_mem hm)
theorem newId_mem : ∀ {θ : List (Nat × Nat)} {k j : Nat}, newId θ k = some j → (k, j) ∈ θ
  | [], _, _, h => by simp [newId] at h
  | p :: r, k, j, h => by
    simp only [newId] at h
    split at h
    · rename_i e; simp at h; subst e; subst h; exact List.mem_cons_self ..
    · exact List.mem_cons_of_mem _ (newId_mem h)
theorem oldId_some : ∀ {θ : List (Nat × Nat)} {j k : Nat}, oldId θ j = some k → (k, j) ∈ θ
  | [], _, _, h => by simp [oldId] at h
  | p :: r, j, k, h => by
    simp only [oldId] at h
    split at h
    · rename_i e; simp at h; subst e; subst h; exact List.mem_cons_self ..
    · exact List.mem_cons_of_mem _ (oldId_some h)

def reρ (θ : List (Nat × Nat)) (ρ : Nat → Pl) : Nat → Pl := fun j => match oldId θ j with | some k => ρ k | none => .un

section
variable {θ : List (Nat × Nat)} {ρ : Nat → Pl}
theorem reρ_new (hn : (θ.map (·.2)).Nodup) {k j : Nat} (h : newId θ k = some j) : reρ θ ρ j = ρ k := by
  have := oldId_mem hn (newId_mem h)
  simp only [reρ, this]
theorem renI_ok (hn : (θ.map (·.2)).Nodup) {i j : IV} {vs : List Value} (h : renI θ i = some j) (hv : ICells ρ i vs) : ICells (reρ θ ρ) j vs := by
  cases i
  case sl k off len =>
    simp [renI] at h
    obtain ⟨x, hx, rfl⟩ := h
    simp only [ICells, reρ_new hn hx]
    exact hv
  case ptr k off =>
    simp [renI] at h
    obtain ⟨x, hx, rfl⟩ := h
    simp only [ICells, reρ_new hn hx]
    exact hv
  all_goals (simp [renI] at h; subst h; exact hv)
theorem renL_ok (hn : (θ.map (·.2)).Nodup) : ∀ {l m : List IV} {vs : List Value}, renL θ l = some m → LCells ρ l vs → LCells (reρ θ ρ) m vs
  | [], m, vs, h, hv => by simp [renL] at h; subst h; exact hv
  | i :: r, m, vs, h, ⟨a, b, hab, ha, hb⟩ => by
    simp only [renL] at h
    split at h
    case h_2 => simp at h
    rename_i x l hx hl
    simp at h
    subst h
    exact ⟨a, b, hab, renI_ok hn hx ha, renL_ok hn hl hb⟩
theorem renP_ok (hn : (θ.map (·.2)).Nodup) : ∀ {l m : List (Bool × List IV)} {vs : List Value}, renP θ l = some m → F2 (VR1 ρ) l vs → F2 (VR1 (reρ θ ρ)) m vs
  | [], m, vs, h, hv => by
    simp [renP] at h
    subst h
    match vs, hv with
    | [], _ => trivial
  | p :: r, m, v :: vs, h, ⟨⟨us, h1, h2⟩, h3⟩ => by
    simp only [renP] at h
    split at h
    case h_2 => simp at h
    rename_i x l hx hl
    simp at h
    subst h
    exact ⟨⟨us, renL_ok hn hx h1, h2⟩, renP_ok hn hl h3⟩
theorem renC_ok (hn : (θ.map (·.2)).Nodup) : ∀ {l m : List (Nat × Nat)} {vs : List Value}, renC θ l = some m → F2 (fun p c => ICells ρ (.ptr p.1 p.2) [c]) l vs → F2 (fun p c => ICells (reρ θ ρ) (.ptr p.1 p.2) [c]) m vs
  | [], m, vs, h, hv => by
    simp [renC] at h
    subst h
    match vs, hv with
    | [], _ => trivial
  | p :: r, m, v :: vs, h, ⟨h1, h3⟩ => by
    simp only [renC] at h
    split at h
    case h_2 => simp at h
    rename_i x l hx hl
    simp at h
    subst h
    refine ⟨?_, renC_ok hn hl h3⟩
    simp only [ICells, reρ_new hn hx]
    exact h1
theorem renA_ok (hn : (θ.map (·.2)).Nodup) {x y : AV} {v : Value} (h : renA θ x = some y) (hv : VRepr ρ x v) : VRepr (reρ θ ρ) y v := by
  cases x
  case any => simp [renA] at h; subst h; trivial
  case val g l =>
    simp [renA] at h
    obtain ⟨m, hm, rfl⟩ := h
    obtain ⟨us, h1, h2⟩ := hv
    exact ⟨us, renL_ok hn hm h1, h2⟩
  case tup l =>
    simp [renA] at h
    obtain ⟨m, hm, rfl⟩ := h
    obtain ⟨us, h1, h2⟩ := hv
    exact ⟨us, h1, renP_ok hn hm h2⟩
  case fn f a c =>
    simp only [renA] at h
    split at h
    case h_2 => simp at h
    rename_i x' y' hx hy
    simp at h
    subst h
    obtain ⟨fs, cs, h1, h2, h3⟩ := hv
    exact ⟨fs, cs, h1, renP_ok hn hx h2, renC_ok hn hy h3⟩
theorem tidyS_ok (hn : (θ.map (·.2)).Nodup) {keep : List Nat} : ∀ {l m : List AV} {i : Nat} {vs : List Value}, tidyS θ keep l i = some m → F2 (VRepr ρ) l vs → F2 (VRepr (reρ θ ρ)) m vs
  | [], m, i, vs, h, hv => by
    simp [tidyS] at h
    subst h
    match vs, hv with
    | [], _ => trivial
  | x :: r, m, i, v :: vs, h, ⟨h1, h2⟩ => by
    simp only [tidyS] at h
    split at h
    case h_2 => simp at h
    rename_i y l hy hl
    simp at h
    subst h
    refine ⟨?_, tidyS_ok hn hl h2⟩
    split at hy
    · exact renA_ok hn hy h1
    · simp at hy; subst hy; trivial
end

theorem tidyH_mem {θ : List (Nat × Nat)} {h : Heap} : ∀ {l : List (Nat × Nat)} {h' : Heap}, tidyH θ h l = some h' → ∀ {j : Nat} {b : Blk}, hget h' j = some b → ∃ k c, (k, j) ∈ l ∧ hget h k = some c ∧ renL θ c.items = some b.items ∧ b.own = c.own
  | [], h', ht, j, b, hj => by simp [tidyH] at ht; subst ht; simp [hget] at hj
  | p :: r, h', ht, j, b, hj => by
    simp only [tidyH] at ht
    split at ht
    case h_2 => simp at ht
    rename_i c l hc hl
    split at ht <;> simp at ht
    rename_i m hm
    subst ht
    simp only [hget] at hj
    split at hj
    · rename_i e
      simp at hj
      subst hj
      subst e
      exact ⟨p.1, c, List.mem_cons_self .., hc, hm, rfl⟩
    · obtain ⟨k, c', h1, h2⟩ := tidyH_mem hl hj
      exact ⟨k, c', List.mem_cons_of_mem _ h1, h2⟩

theorem Weak_tidy {t : Tidy} {σ σ' : St} (h : tidy t σ = some σ') : Weak σ σ' := by
  intro base ρ a w hr
  unfold tidy at h
  split at h
  case isFalse => simp at h
  rename_i hc
  simp only [Bool.and_eq_true, List.all_eq_true] at hc
  obtain ⟨hc1, hc2, hc3⟩ := hc
  have hn1 := nodupN_ok hc1
  have hn2 := nodupN_ok hc2
  split at h
  case h_2 => simp at h
  rename_i s h' hs hh
  simp at h
  subst h
  have hold : HOk base.heap.size ρ w (hget σ.heap) := hr.heap
  refine ⟨reρ t.ids ρ, hr.defers, tidyS_ok hn2 hs hr.slots, ?_, hr.below, fun k hk hu => ?_⟩
  · refine ⟨fun j b hj => ?_, fun j j' b b' hj hj' hne ho L L' hL hL' => ?_⟩
    · obtain ⟨k, c, h1, h2, h3, h4⟩ := tidyH_mem hh hj
      have hρ : reρ t.ids ρ j = ρ k := by
        have := oldId_mem hn2 h1
        simp only [reρ, this]
      have hb := hold.blk k c h2
      unfold BlkOk at hb ⊢
      rw [hρ]
      split
      · rename_i e; simp only [e] at hb
      · rename_i e; simp only [e] at hb; exact renL_ok hn2 h3 hb
      · rename_i L e
        simp only [e] at hb
        obtain ⟨vs, b1, b2, b3⟩ := hb
        exact ⟨vs, renL_ok hn2 h3 b1, fun ho => b2 (h4 ▸ ho), fun ho => b3 (h4 ▸ ho)⟩
    · obtain ⟨k, c, h1, h2, h3, h4⟩ := tidyH_mem hh hj
      obtain ⟨k', c', h1', h2', h3', h4'⟩ := tidyH_mem hh hj'
      have hρ : reρ t.ids ρ j = ρ k := by
        have := oldId_mem hn2 h1
        simp only [reρ, this]
      have hρ' : reρ t.ids ρ j' = ρ k' := by
        have := oldId_mem hn2 h1'
        simp only [reρ, this]
      rw [hρ] at hL
      rw [hρ'] at hL'
      refine hold.inj k k' c c' h2 h2' (fun e => hne ?_) (h4 ▸ ho) L L' hL hL'
      subst e
      have gen : ∀ (l : List (Nat × Nat)), (l.map (·.1)).Nodup → (k, j) ∈ l → (k, j') ∈ l → j = j' := by
        intro l
        induction l with
        | nil => intro _ h; simp at h
        | cons p r ih =>
          intro hn ha hb
          rw [List.map_cons, List.nodup_cons] at hn
          rcases List.mem_cons.1 ha with e1 | m1 <;> rcases List.mem_cons.1 hb with e2 | m2
          · have := e1.trans e2.symm; simpa using this
          · exact absurd (by have := List.mem_map_of_mem (f := (·.1)) m2; rw [← e1]; exact this) hn.1
          · exact absurd (by have := List.mem_map_of_mem (f := (·.1)) m1; rw [← e2]; exact this) hn.1
          · exact ih hn.2 m1 m2
      exact gen _ hn1 h1 h1'
  · exfalso
    unfold reρ at hu
    split at hu
    · rename_i k' hk'
      have := hc3 _ (oldId_some hk')
      simp at this hk
      omega
    · exact hu rfl

/-! ### Which blocks are kept: those that the kept slots reach, numbered as they come -/
def addN (l : List Nat) (k : Nat) : List Nat := if keepN l k then l else l ++ [k]
def idsI (l : List Nat) : IV → List Nat
  | .sl k _ _ => addN l k
  | .ptr k _ => addN l k
  | _ => l
def idsL : List IV → List Nat → List Nat
  | [], l => l
  | i :: r, l => idsL r (idsI l i)
def idsP : List (Bool × List IV) → List Nat → List Nat
  | [], l => l
  | p :: r, l => idsP r (idsL p.2 l)
def idsC : List (Nat × Nat) → List Nat → List Nat
  | [], l => l
  | p :: r, l => idsC r (addN l p.1)
def idsA (l : List Nat) : AV → List Nat
  | .any => l
  | .val _ m => idsL m l
  | .tup m => idsP m l
  | .fn _ a c => idsC c (idsP a l)
def idsS (keep : List Nat) : List AV → Nat → List Nat → List Nat
  | [], _, l => l
  | x :: r, i, l => idsS keep r (i + 1) (if keepN keep i then idsA l x else l)
def idsH (h : Heap) : List Nat → List Nat → List Nat
  | [], l => l
  | k :: r, l => idsH h r (match hget h k with | some b => idsL b.items l | none => l)
def numb : List Nat → Nat → List (Nat × Nat)
  | [], _ => []
  | k :: r, i => (k, i) :: numb r (i + 1)
def autoT (keep : List Nat) (σ : St) : Tidy :=
  let l := idsS keep σ.slots 0 []
  let l := idsH σ.heap l l
  let l := idsH σ.heap l l
  ⟨numb l 0, keep, 16⟩
def tidyK (keep : List Nat) (σ : St) : Option St := tidy (autoT keep σ) σ
theorem Weak_tidyK {keep : List Nat} {σ σ' : St} (h : tidyK keep σ = some σ') : Weak σ σ' := Weak_tidy h
end Go.Ev
