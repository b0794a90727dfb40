/- Regions in whatever order, code, loops, functions. Own work; no statement of the seat is proved here. -/
import Derived.Test.YtmdfhomeokfgiaaEvI
namespace Go.Ev
open Go.RowKit

/-! ### Which operations come before which -/
def opMask (acc : List Nat) (o : Oper) : Nat :=
  o.after.toList.foldl (fun m e => if Region.binds .any e then m ||| (1 <<< e.on) ||| acc.getD e.on 0 else m) 0
def masksOf (ops : List Oper) : List Nat := ops.foldl (fun acc o => acc ++ [opMask acc o]) []

def edgesOK : List Oper → Nat → Bool
  | [], _ => true
  | o :: r, k => (o.after.toList.all fun e => !(Region.binds .any e) || decide (e.on < k)) && edgesOK r (k + 1)
def pairOK (ops : Array Oper) (masks : List Nat) (i j : Nat) (x y : Oper) : Bool :=
  (masks.getD j 0).testBit i || (x.apart ops y && classOK x y)
def rowOK (ops : Array Oper) (masks : List Nat) (i : Nat) (x : Oper) : List Oper → Nat → Bool
  | [], _ => true
  | y :: r, j => pairOK ops masks i j x y && rowOK ops masks i x r (j + 1)
def pairsOK (ops : Array Oper) (masks : List Nat) : List Oper → Nat → Bool
  | [], _ => true
  | x :: r, i => rowOK ops masks i x r (i + 1) && pairsOK ops masks r (i + 1)
def regOK (ops : List Oper) : Bool := edgesOK ops 0 && pairsOK ops.toArray (masksOf ops) ops 0

theorem edgesOK_ok : ∀ (l : List Oper) (k i : Nat) (o : Oper), edgesOK l k = true → l[i]? = some o → ∀ e ∈ o.after, Region.binds .any e = true → e.on < k + i := by
  intro l
  induction l with
  | nil => intro k i o _ he; simp at he
  | cons q r ih =>
    intro k i o h he e hm hb
    simp only [edgesOK, Bool.and_eq_true, List.all_eq_true] at h
    cases i with
    | zero =>
      simp at he
      subst he
      have := h.1 e (Array.mem_toList_iff.2 hm)
      simp only [hb, Bool.not_true, Bool.false_or, decide_eq_true_eq] at this
      omega
    | succ i =>
      have := ih (k + 1) i o h.2 (by simpa using he) e hm hb
      omega

theorem rowOK_ok {ops : Array Oper} {masks : List Nat} {i : Nat} {x : Oper} : ∀ (l : List Oper) (k j : Nat) (y : Oper), rowOK ops masks i x l k = true → l[j]? = some y → pairOK ops masks i (k + j) x y = true := by
  intro l
  induction l with
  | nil => intro k j y _ he; simp at he
  | cons q r ih =>
    intro k j y h he
    simp only [rowOK, Bool.and_eq_true] at h
    cases j with
    | zero =>
      simp at he
      subst he
      exact h.1
    | succ j =>
      have := ih (k + 1) j y h.2 (by simpa using he)
      rwa [Nat.add_assoc, Nat.add_comm 1 j] at this
theorem pairsOK_ok {ops : Array Oper} {masks : List Nat} : ∀ (l : List Oper) (k i j : Nat) (x y : Oper), pairsOK ops masks l k = true → l[i]? = some x → l[j]? = some y → i < j → pairOK ops masks (k + i) (k + j) x y = true := by
  intro l
  induction l with
  | nil => intro k i j x y _ he; simp at he
  | cons q r ih =>
    intro k i j x y h hx hy hij
    simp only [pairsOK, Bool.and_eq_true] at h
    cases j with
    | zero => omega
    | succ j =>
      cases i with
      | zero =>
        simp at hx
        subst hx
        have := rowOK_ok r (k + 1) j y h.1 (by simpa using hy)
        rwa [Nat.add_assoc, Nat.add_comm 1 j] at this
      | succ i =>
        have := ih (k + 1) i j x y h.2 (by simpa using hx) (by simpa using hy) (by omega)
        rwa [Nat.add_assoc, Nat.add_comm 1 i, Nat.add_assoc, Nat.add_comm 1 j] at this

theorem opMask_ok (acc : List Nat) : ∀ (l : List Edge) (m p : Nat), (l.foldl (fun m e => if Region.binds .any e then m ||| (1 <<< e.on) ||| acc.getD e.on 0 else m) m).testBit p = true →
    m.testBit p = true ∨ ∃ e ∈ l, Region.binds .any e = true ∧ (p = e.on ∨ (acc.getD e.on 0).testBit p = true)
  | [], m, p, h => .inl h
  | e :: l, m, p, h => by
    simp only [List.foldl_cons] at h
    rcases opMask_ok acc l _ p h with h | ⟨e', h1, h2⟩
    · split at h
      · rename_i hb
        simp only [Nat.testBit_or, Bool.or_eq_true] at h
        rcases h with (h | h) | h
        · exact .inl h
        · refine .inr ⟨e, List.mem_cons_self .., hb, .inl ?_⟩
          rw [Nat.shiftLeft_eq, Nat.one_mul, Nat.testBit_two_pow] at h
          simp at h
          exact h.symm
        · exact .inr ⟨e, List.mem_cons_self .., hb, .inr h⟩
      · exact .inl h
    · exact .inr ⟨e', List.mem_cons_of_mem _ h1, h2⟩

theorem masks_fold : ∀ (l : List Oper) (acc : List Nat), ∃ t, l.foldl (fun acc o => acc ++ [opMask acc o]) acc = acc ++ t ∧ t.length = l.length ∧
    ∀ i o, l[i]? = some o → t[i]? = some (opMask (acc ++ t.take i) o)
  | [], acc => ⟨[], by simp, rfl, fun i o h => by simp at h⟩
  | o :: l, acc => by
    obtain ⟨t, h1, h2, h3⟩ := masks_fold l (acc ++ [opMask acc o])
    refine ⟨opMask acc o :: t, by simp only [List.foldl_cons]; rw [h1]; simp, by simp [h2], fun i q hq => ?_⟩
    cases i with
    | zero => simp at hq; subst hq; simp
    | succ i =>
      have := h3 i q (by simpa using hq)
      simp only [List.getElem?_cons_succ, this, List.take_succ_cons]
      simp

theorem masksOf_ok {ops : List Oper} {q p : Nat} (h : ((masksOf ops).getD q 0).testBit p = true) :
    ∃ o, ops[q]? = some o ∧ ∃ e ∈ o.after, Region.binds .any e = true ∧ (p = e.on ∨ (e.on < q ∧ ((masksOf ops).getD e.on 0).testBit p = true)) := by
  obtain ⟨t, h1, h2, h3⟩ := masks_fold ops []
  have hm : masksOf ops = t := by unfold masksOf; rw [h1]; simp
  rw [hm] at h ⊢
  cases ho : ops[q]? with
  | none =>
    have : t[q]? = none := by rw [List.getElem?_eq_none_iff] at ho ⊢; omega
    simp [List.getD, this] at h
  | some o =>
    have ht := h3 q o ho
    simp only [List.nil_append] at ht
    simp only [List.getD, ht, Option.getD_some] at h
    refine ⟨o, rfl, ?_⟩
    unfold opMask at h
    rcases opMask_ok _ _ _ _ h with h | ⟨e, he, hb, h⟩
    · simp at h
    · refine ⟨e, Array.mem_toList_iff.1 he, hb, ?_⟩
      rcases h with h | h
      · exact .inl h
      · right
        simp only [List.getD, List.getElem?_take] at h
        split at h
        · exact ⟨‹_›, by simpa [List.getD] using h⟩
        · simp at h

/-! ### Any order -/
section
variable {P : Program} {Γ : FuncId → Option Ct} {N : Nat} {ops : Array Oper}

abbrev mk (ops : Array Oper) (i : Nat) : Nat := (masksOf ops.toList).getD i 0

def wpAnyF (P : Program) (Γ : FuncId → Option Ct) (N : Nat) (ops : Array Oper) (Q : FSt → Prop) : Nat → Array Bool → FSt → Prop
  | 0, listed, s => Region.ready .any ops listed = [] ∧ Q s
  | fuel + 1, listed, s =>
    (Region.ready .any ops listed = [] → Q s) ∧
    ∀ i ∈ Region.ready .any ops listed, ∃ s', astep P Γ N (mk ops) ops i s = some s' ∧ wpAnyF P Γ N ops Q fuel (listed.setIfInBounds i true) s'

def ClosedL (ops : Array Oper) (listed : Array Bool) : Prop := ∀ m o, listed.getD m false = true → ops[m]? = some o → ∀ e ∈ o.after, Region.binds .any e = true → listed.getD e.on false = true

theorem closed_mask {listed : Array Bool} (hc : ClosedL ops listed) : ∀ (q p : Nat), listed.getD q false = true → (mk ops q).testBit p = true → listed.getD p false = true := by
  intro q
  induction q using Nat.strongRecOn with
  | _ q ih =>
    intro p hq hp
    obtain ⟨o, ho, e, he, hb, h⟩ := masksOf_ok hp
    have ho' : ops[q]? = some o := by simpa using ho
    have hon := hc q o hq ho' e he hb
    rcases h with h | ⟨h1, h2⟩
    · rw [h]; exact hon
    · exact ih e.on h1 p hon h2

theorem ready_mask {listed : Array Bool} (hc : ClosedL ops listed) {q p : Nat} (hq : q ∈ Region.ready .any ops listed) (hp : (mk ops q).testBit p = true) : listed.getD p false = true := by
  obtain ⟨_, o, ho, hall⟩ := mem_ready.1 hq
  obtain ⟨o', ho', e, he, hb, h⟩ := masksOf_ok hp
  have : o' = o := by have h' : ops[q]? = some o' := by simpa using ho'
                      rw [ho] at h'; exact (Option.some.inj h').symm
  subst this
  have hon := hall e he hb
  rcases h with h | ⟨h1, h2⟩
  · rw [h]; exact hon
  · exact closed_mask hc e.on p hon h2

theorem unlisted {listed : Array Bool} {i : Nat} (h : listed.getD i true = false) : listed.getD i false = false := by
  rcases Nat.lt_or_ge i listed.size with h' | h'
  · simp [h'] at h ⊢; exact h
  · simp [Array.getElem?_eq_none h'] at h

theorem closed_set {listed : Array Bool} (hc : ClosedL ops listed) {j : Nat} (hj : j ∈ Region.ready .any ops listed) : ClosedL ops (listed.setIfInBounds j true) := by
  intro m o hm ho e he hb
  obtain ⟨_, oj, hoj, hall⟩ := mem_ready.1 hj
  by_cases hmj : m = j
  · subst hmj
    rw [hoj] at ho
    simp at ho
    subst ho
    exact getD_set_true (hall e he hb)
  · rw [getD_set_ne false (Ne.symm hmj)] at hm
    exact getD_set_true (hc m o hm ho e he hb)

theorem wpAnyF_first {Q : FSt → Prop} {i : Nat} {oi : Oper} (hi : ops[i]? = some oi) :
    ∀ (fuel : Nat) (listed : Array Bool) (s s1 : FSt), ClosedL ops listed →
      (∀ j oj, ops[j]? = some oj → j ≠ i → listed.getD j true = false → (mk ops j).testBit i = true ∨ (oi.apart ops oj = true ∧ classOK oi oj = true)) →
      i ∈ Region.ready .any ops listed → astep P Γ N (mk ops) ops i s = some s1 →
      wpAnyF P Γ N ops Q fuel (listed.setIfInBounds i true) s1 → wpAnyF P Γ N ops Q (fuel + 1) listed s := by
  intro fuel
  induction fuel with
  | zero =>
    intro listed s s1 hc hfree hr hs H
    refine ⟨fun h => (by rw [h] at hr; cases hr), fun j hj => ?_⟩
    by_cases hji : j = i
    · subst hji; exact ⟨s1, hs, H⟩
    · have := ready_mono hj hji
      rw [H.1] at this
      cases this
  | succ fuel ih =>
    intro listed s s1 hc hfree hr hs H
    refine ⟨fun h => (by rw [h] at hr; cases hr), fun j hj => ?_⟩
    by_cases hji : j = i
    · subst hji; exact ⟨s1, hs, H⟩
    · obtain ⟨s2, hs2, H2⟩ := H.2 j (ready_mono hj hji)
      obtain ⟨hjun, oj, hoj, hall⟩ := mem_ready.1 hj
      have hiun := (mem_ready.1 hr).1
      have hij : (mk ops j).testBit i = false := by
        cases hq : (mk ops j).testBit i
        · rfl
        · have := ready_mask hc hj hq
          rw [unlisted hiun] at this
          simp at this
      have hji' : (mk ops i).testBit j = false := by
        cases hq : (mk ops i).testBit j
        · rfl
        · have := ready_mask hc hr hq
          rw [unlisted hjun] at this
          simp at this
      obtain ⟨hap, hcl⟩ := (hfree j oj hoj hji hjun).resolve_left (by rw [hij]; simp)
      obtain ⟨s3, h3, h4⟩ := astep_comm hi hoj (Ne.symm hji) hij hji' hap hcl hs hs2
      refine ⟨s3, h3, ih (listed.setIfInBounds j true) s3 s2 (closed_set hc hj) (fun k ok hk hki hun => ?_) (ready_mono hr (Ne.symm hji)) h4 ?_⟩
      · refine hfree k ok hk hki ?_
        by_cases hjk : j = k
        · subst hjk; exact hjun
        · rw [getD_set_ne true hjk] at hun; exact hun
      · rw [Array.setIfInBounds_comm _ _ hji]
        exact H2

/-- The operations one behind the other. -/
def runF (P : Program) (Γ : FuncId → Option Ct) (N : Nat) (mask : Nat → Nat) (ops : Array Oper) : Nat → Nat → FSt → Option FSt
  | 0, _, s => some s
  | n + 1, k, s => match astep P Γ N mask ops k s with
    | some s' => runF P Γ N mask ops n (k + 1) s'
    | none => none

theorem wpAnyF_lex {Q : FSt → Prop} (hok : regOK ops.toList = true) : ∀ (n k : Nat) (listed : Array Bool) (s s' : FSt), k + n = ops.size → listed.size = ops.size → (∀ m, m < ops.size → listed.getD m false = decide (m < k)) →
    runF P Γ N (mk ops) ops n k s = some s' → Q s' → wpAnyF P Γ N ops Q n listed s
  | 0, k, listed, s, s', hk, hl, hL, hr, hQ => by
    simp [runF] at hr
    subst hr
    refine ⟨?_, hQ⟩
    cases h : Region.ready .any ops listed with
    | nil => rfl
    | cons i r =>
      have hi : i ∈ Region.ready .any ops listed := by rw [h]; exact List.mem_cons_self ..
      obtain ⟨h1, o, ho, _⟩ := mem_ready.1 hi
      have hlt := (Array.getElem?_eq_some_iff.1 ho).1
      have := unlisted h1
      rw [hL i hlt] at this
      simp at this
      omega
  | n + 1, k, listed, s, s', hk, hl, hL, hr, hQ => by
    simp only [runF] at hr
    split at hr
    case h_2 => simp at hr
    rename_i s1 hs1
    have hklt : k < ops.size := by omega
    have hko : ops[k]? = some ops[k] := Array.getElem?_eq_getElem hklt
    simp only [regOK, Bool.and_eq_true] at hok
    obtain ⟨hedge, hpair⟩ := hok
    have hlist : ∀ {i : Nat} {o : Oper}, ops[i]? = some o → ops.toList[i]? = some o := fun h => by simpa using h
    have hclosed : ClosedL ops listed := by
      intro m o hm ho e he hb
      have h1 := edgesOK_ok _ _ _ _ hedge (hlist ho) e he hb
      have hmlt := (Array.getElem?_eq_some_iff.1 ho).1
      rw [hL m hmlt] at hm
      simp at hm
      rw [hL e.on (by omega)]
      simp
      omega
    have hready : k ∈ Region.ready .any ops listed := by
      rw [mem_ready]
      refine ⟨?_, _, hko, fun e he hb => ?_⟩
      · have := hL k hklt
        have hlt : k < listed.size := by omega
        simp [hlt] at this ⊢
        exact this
      · have h1 := edgesOK_ok _ _ _ _ hedge (hlist hko) e he hb
        rw [hL e.on (by omega)]
        simp
        omega
    refine wpAnyF_first hko n listed s s1 hclosed (fun j oj hj hjk hun => ?_) hready hs1 ?_
    · have hjlt := (Array.getElem?_eq_some_iff.1 hj).1
      have := unlisted hun
      rw [hL j hjlt] at this
      simp at this
      have hp := pairsOK_ok _ 0 _ _ _ _ hpair (hlist hko) (hlist hj) (by omega)
      simp only [Nat.zero_add, pairOK, Bool.or_eq_true, Bool.and_eq_true, Array.toArray_toList] at hp
      exact hp
    · refine wpAnyF_lex (by simp only [regOK, Bool.and_eq_true]; exact ⟨hedge, hpair⟩) n (k + 1) _ s1 s' (by omega) (by simpa using hl) (fun m hm => ?_) hr hQ
      by_cases hmk : m = k
      · subst hmk
        simp [hl, hm]
      · rw [getD_set_ne false (Ne.symm hmk), hL m hm]
        simp
        omega
end

theorem listed_lt {n : Nat} {listed : Array Bool} {j : Nat} (hsz : listed.size = n) (h : listed.getD j false = true) : decide (j < n) = true := by
  rcases Nat.lt_or_ge j listed.size with h' | h'
  · simp; omega
  · simp [Array.getElem?_eq_none h'] at h

section
variable {P : Program} {Γ : FuncId → Option Ct} {N : Nat} {ops : Array Oper}

theorem wpAny_of_F (hΓ : GSound P Γ) {base : World} {Q : FSt → Prop} {Q' : Exit → Act → World → Prop} (hQ : ∀ ρ a w s, Q s → RelF N base ρ a w s (fun j => decide (j < ops.size)) → Q' .normal a w) :
    ∀ (fuel : Nat) (listed : Array Bool) (s : FSt) (ρ : Nat → Pl) (a : Act) (w : World), listed.size = ops.size → RelF N base ρ a w s (fun j => listed.getD j false) → wpAnyF P Γ N ops Q fuel listed s → wpAny P .any ops Q' fuel listed a w
  | 0, listed, s, ρ, a, w, hsz, hr, h => ⟨h.1, hQ ρ a w s h.2 ⟨hr.defers, hr.slots, hr.heap, hr.below, fun k hk hu => listed_lt hsz (hr.fresh k hk hu)⟩⟩
  | fuel + 1, listed, s, ρ, a, w, hsz, hr, h => by
    refine ⟨fun h0 => hQ ρ a w s (h.1 h0) ⟨hr.defers, hr.slots, hr.heap, hr.below, fun k hk hu => listed_lt hsz (hr.fresh k hk hu)⟩, fun i hi => ?_⟩
    obtain ⟨s', h1, h2⟩ := h.2 i hi
    have hun := unlisted (mem_ready.1 hi).1
    refine astep_sound hΓ hr hun h1 fun ρ' a' w' hr' => ?_
    refine wpAny_of_F hΓ hQ fuel _ s' ρ' a' w' (by simpa using hsz) ⟨hr'.defers, hr'.slots, hr'.heap, hr'.below, fun k hk hu => ?_⟩ h2
    have := hr'.fresh k hk hu
    simp only [Bool.or_eq_true, beq_iff_eq] at this
    rcases this with e | e
    · rw [e]
      obtain ⟨hl, _⟩ := mem_ready.1 hi
      have : i < listed.size := by
        rcases Nat.lt_or_ge i listed.size with h' | h'
        · exact h'
        · simp [Array.getElem?_eq_none h'] at hl
      simp [this]
    · exact getD_set_true e

/-- A region that asks the tape. -/
theorem region_draw (hΓ : GSound P Γ) {base : World} {ρ : Nat → Pl} {a : Act} {w : World} {s s' : FSt} {id : Nat} {Q : Exit → Act → World → Prop} (hm : P.follows .mixedOrders = true) (hok : regOK ops.toList = true)
    (hr : RelF N base ρ a w s (fun _ => false)) (hs : runF P Γ N (mk ops) ops ops.size 0 s = some s')
    (hQ : ∀ ρ a w, RelF N base ρ a w s' (fun j => decide (j < ops.size)) → Q .normal a w) : (Code.region id ops true).wp P Q a w := by
  refine wp_region_any hm ?_
  refine wpAny_of_F hΓ (N := N) (base := base) (Q := fun t => t = s') (fun ρ a w s h hr => by subst h; exact hQ ρ a w hr) _ _ s ρ a _ (by simp) ?_ ?_
  · refine ⟨hr.defers, hr.slots, hr.heap.drew, hr.below.drew, fun k hk hu => ?_⟩
    have := hr.fresh k hk hu
    simp at this
  · refine wpAnyF_lex hok ops.size 0 _ s s' (by omega) (by simp) (fun m hm => ?_) hs rfl
    simp [hm]

/-- A region in the order of the text. -/
theorem region_seq (hΓ : GSound P Γ) {base : World} {mask : Nat → Nat} {id : Nat} {Q : Exit → Act → World → Prop} {s' : FSt}
    (hQ : ∀ ρ a w, RelF N base ρ a w s' (fun j => decide (j < ops.size)) → Q .normal a w) {ρ : Nat → Pl} {a : Act} {w : World} {s : FSt} (hr : RelF N base ρ a w s (fun _ => false)) (hs : runF P Γ N mask ops ops.size 0 s = some s') :
    (Code.region id ops false).wp P Q a w := by
  refine wp_region ?_
  have key : ∀ (n k : Nat) (ρ : Nat → Pl) (a : Act) (w : World) (s : FSt), k + n = ops.size → RelF N base ρ a w s (fun j => decide (j < k)) → runF P Γ N mask ops n k s = some s' → wpOps P ops Q (List.range' k n) a w := by
    intro n
    induction n with
    | zero =>
      intro k ρ a w s hk hr hs
      simp [runF] at hs
      subst hs
      exact hQ ρ a w ⟨hr.defers, hr.slots, hr.heap, hr.below, fun j hj hu => by have := hr.fresh j hj hu; simp at this ⊢; omega⟩
    | succ n ih =>
      intro k ρ a w s hk hr hs
      simp only [runF] at hs
      split at hs
      case h_2 => simp at hs
      rename_i s1 hs1
      rw [List.range'_succ, wpOps_cons]
      refine astep_sound hΓ hr (by simp) hs1 fun ρ' a' w' hr' => ?_
      refine ih (k + 1) ρ' a' w' s1 (by omega) ⟨hr'.defers, hr'.slots, hr'.heap, hr'.below, fun j hj hu => ?_⟩ hs
      have := hr'.fresh j hj hu
      simp at this ⊢
      omega
  rw [List.range_eq_range']
  exact key ops.size 0 ρ a w s (by omega) ⟨hr.defers, hr.slots, hr.heap, hr.below, fun j hj hu => by have := hr.fresh j hj hu; simp at this⟩ hs
end
end Go.Ev
