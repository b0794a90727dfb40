/- Code: its evaluation, rules for what it leaves, loops, functions. Own work; no statement of the seat is proved here. -/
import Derived.Test.YtmdfhomeokfgiaaEvJ
import Derived.Scope
namespace Go.Ev
open Go.RowKit

abbrev Heap := List (Nat × Blk)
def hget : Heap → Nat → Option Blk
  | [], _ => none
  | p :: r, k => if p.1 = k then some p.2 else hget r k
def hput : Heap → Nat → Blk → Heap
  | [], k, b => [(k, b)]
  | p :: r, k, b => if p.1 = k then (k, b) :: r else p :: hput r k b
def hdel : Heap → Nat → Heap
  | [], _ => []
  | p :: r, k => if p.1 = k then hdel r k else p :: hdel r k
def hup : Heap → Upd → Heap
  | h, [] => h
  | h, u :: r => match u.2 with
    | some b => hup (hput h u.1 b) r
    | none => hup (hdel h u.1) r

theorem hget_hput : ∀ (h : Heap) (k : Nat) (b : Blk), hget (hput h k b) = updh (hget h) k (some b)
  | [], k, b => by
    funext j
    simp only [hput, hget, updh]
    by_cases e : k = j
    · simp [e]
    · simp [e, Ne.symm e]
  | p :: r, k, b => by
    funext j
    simp only [hput]
    split
    · rename_i e
      simp only [hget, updh, e]
      by_cases e' : k = j
      · simp [e']
      · simp [e', Ne.symm e']
    · rename_i e
      simp only [hget, hget_hput r k b, updh]
      by_cases e' : p.1 = j
      · have : j ≠ k := fun q => e (by omega)
        simp [e', this]
      · simp [e']
theorem hget_hdel : ∀ (h : Heap) (k : Nat), hget (hdel h k) = updh (hget h) k none
  | [], k => by funext j; simp [hdel, hget, updh]
  | p :: r, k => by
    funext j
    simp only [hdel]
    split
    · rename_i e
      rw [hget_hdel r k]
      simp only [hget, updh, e]
      by_cases e' : j = k
      · simp [e']
      · simp [e', Ne.symm e']
    · rename_i e
      simp only [hget, hget_hdel r k, updh]
      by_cases e' : p.1 = j
      · have : j ≠ k := fun q => e (by omega)
        simp [e', this]
      · simp [e']
theorem hget_hup : ∀ (upd : Upd) (h : Heap), hget (hup h upd) = applyU (hget h) upd
  | [], _ => rfl
  | (k, some b) :: r, h => by simp only [hup, applyU]; rw [hget_hup r, hget_hput]
  | (k, none) :: r, h => by simp only [hup, applyU]; rw [hget_hup r, hget_hdel]

structure St where
  slots : List AV
  heap : Heap
  next : Nat

def toF (s : St) : FSt := ⟨s.slots, hget s.heap⟩

section
variable (P : Program) (Γ : FuncId → Option Ct)

def stepL (N m : Nat) (ops : Array Oper) (o : Oper) (i : Nat) (slots : List AV) (heap : Heap) : Option (List AV × Heap) :=
  match wantedA ops slots o with
  | none => none
  | some false => some (putS slots o.dst (.tup []), heap)
  | some true =>
    match acore P Γ o (aeval slots) (if readsOp o.op then fun k => if okId N m i k then hget heap k else none else fun _ => none) (N + 16 * i) with
    | none => none
    | some (v, upd) => if upd.all (fun u => (writesOp o.op && okId N m i u.1) || ownId N i u.1) then some (putS slots o.dst v, hup heap upd) else none

def runL (N : Nat) (mask : Nat → Nat) (ops : Array Oper) : List Oper → Nat → List AV → Heap → Option (List AV × Heap)
  | [], _, slots, heap => some (slots, heap)
  | o :: r, i, slots, heap =>
    match stepL P Γ N (mask i) ops o i slots heap with
    | some q => runL N mask ops r (i + 1) q.1 q.2
    | none => none

def seqMask (i : Nat) : Nat := 2 ^ i - 1

/-- A region. -/
def evR (ops : Array Oper) (draw : Bool) (s : St) : Option St :=
  if draw && !(regOK ops.toList) then none
  else match runL P Γ s.next (if draw then mk ops else seqMask) ops ops.toList 0 s.slots s.heap with
    | some q => some ⟨q.1, q.2, s.next + 16 * ops.size⟩
    | none => none
end

theorem stepL_astep {P : Program} {Γ : FuncId → Option Ct} {N : Nat} {mask : Nat → Nat} {ops : Array Oper} {o : Oper} {i : Nat} {slots : List AV} {heap : Heap} {q : List AV × Heap} (ho : ops[i]? = some o)
    (h : stepL P Γ N (mask i) ops o i slots heap = some q) : astep P Γ N mask ops i ⟨slots, hget heap⟩ = some ⟨q.1, hget q.2⟩ := by
  unfold stepL at h
  unfold astep
  simp only [ho]
  split at h
  · simp at h
  · rename_i hw; simp at h; subst h; simp only [hw]
  · rename_i hw
    split at h
    · simp at h
    · rename_i hc
      split at h
      case isFalse => simp at h
      rename_i hall
      simp at h
      subst h
      simp only [hw, hc, hall, if_true, hget_hup]

theorem runL_runF {P : Program} {Γ : FuncId → Option Ct} {N : Nat} {mask : Nat → Nat} {ops : Array Oper} : ∀ (l : List Oper) (k : Nat) (slots : List AV) (heap : Heap) (q : List AV × Heap),
    (∀ i, l[i]? = ops[k + i]?) → runL P Γ N mask ops l k slots heap = some q → runF P Γ N mask ops l.length k ⟨slots, hget heap⟩ = some ⟨q.1, hget q.2⟩ := by
  intro l
  induction l with
  | nil => intro k slots heap q _ h; simp [runL] at h; subst h; rfl
  | cons o r ih =>
    intro k slots heap q hl h
    simp only [runL] at h
    split at h
    case h_2 => simp at h
    rename_i q1 hq1
    simp only [List.length_cons, runF]
    rw [stepL_astep (by have := hl 0; simpa using this.symm) hq1]
    exact ih (k + 1) q1.1 q1.2 q (fun i => by have := hl (i + 1); simpa [Nat.add_assoc, Nat.add_comm 1 i] using this) h

def Rel (base : World) (σ : St) (ρ : Nat → Pl) (a : Act) (w : World) : Prop := RelF σ.next base ρ a w (toF σ) (fun _ => false)

/-- WHAT CODE LEAVES: from whatever the state σ stands for, it ends in something that a state stands for of which Q holds. -/
def T (P : Program) (c : Code) (σ : St) (Q : Exit → St → Prop) : Prop :=
  ∀ base ρ a w, Rel base σ ρ a w → c.wp P (fun e a' w' => ∃ σ' ρ', Q e σ' ∧ Rel base σ' ρ' a' w') a w

section
variable {P : Program} {Q : Exit → St → Prop} {σ : St}

theorem T.mono {c : Code} {Q' : Exit → St → Prop} (h : T P c σ Q) (hq : ∀ e σ, Q e σ → Q' e σ) : T P c σ Q' :=
  fun base ρ a w hr => wp_mono (h base ρ a w hr) fun e _ _ ⟨σ', ρ', q, r⟩ => ⟨σ', ρ', hq e σ' q, r⟩

theorem T.region {Γ : FuncId → Option Ct} (hΓ : GSound P Γ) (hm : P.follows .mixedOrders = true) {id : Nat} {ops : Array Oper} {draw : Bool} {σ' : St} (h : evR P Γ ops draw σ = some σ') (hq : Q .normal σ') : T P (.region id ops draw) σ Q := by
  intro base ρ a w hr
  unfold evR at h
  split at h
  · simp at h
  rename_i hd
  split at h
  case h_2 => simp at h
  rename_i q hrun
  simp at h
  subst h
  have hF := runL_runF ops.toList 0 σ.slots σ.heap q (fun i => by simp) hrun
  have fin : ∀ (ρ' : Nat → Pl) (a' : Act) (w' : World), RelF σ.next base ρ' a' w' ⟨q.1, hget q.2⟩ (fun j => decide (j < ops.size)) → ∃ σ'' ρ'', Q .normal σ'' ∧ Rel base σ'' ρ'' a' w' := by
    intro ρ' a' w' hr'
    refine ⟨_, ρ', hq, hr'.defers, hr'.slots, hr'.heap, hr'.below, fun k hk hu => ?_⟩
    have hk' : σ.next ≤ k := by simp at hk; omega
    have := hr'.fresh k hk' hu
    simp at this hk
    omega
  have hlen : ops.toList.length = ops.size := by simp
  rw [hlen] at hF
  cases draw with
  | true =>
    simp only [Bool.true_and, Bool.not_eq_true', Bool.not_eq_false] at hd
    simp only [if_true] at hF
    exact region_draw hΓ (N := σ.next) hm hd hr hF fin
  | false =>
    simp only [Bool.false_eq_true, if_false] at hF
    exact region_seq hΓ fin hr hF

theorem T.skip (h : Q .normal σ) : T P .skip σ Q := fun _ ρ _ _ hr => wp_skip ⟨σ, ρ, h, hr⟩
theorem T.label {l : Nat} (h : Q .normal σ) : T P (.label l) σ Q := fun _ ρ _ _ hr => wp_label ⟨σ, ρ, h, hr⟩
theorem T.exit {id : Nat} (h : Q (.exit id) σ) : T P (.exit id) σ Q := fun _ ρ _ _ hr => wp_exit ⟨σ, ρ, h, hr⟩
theorem T.ret (h : Q .ret σ) : T P .ret σ Q := fun _ ρ _ _ hr => wp_ret ⟨σ, ρ, h, hr⟩

/-- What comes behind, where it ends as usual. -/
def andThen (next : St → Prop) (Q : Exit → St → Prop) : Exit → St → Prop
  | .normal, σ => next σ
  | e, σ => Q e σ
theorem T.seq {x y : Code} (h : T P x σ (andThen (fun σ' => T P y σ' Q) Q)) : T P (.seq x y) σ Q := by
  intro base ρ a w hr
  refine wp_seq (wp_mono (h base ρ a w hr) ?_)
  rintro e a' w' ⟨σ', ρ', q, r⟩
  cases e with
  | normal => exact q base ρ' a' w' r
  | _ => exact ⟨σ', ρ', q, r⟩

theorem T.cond {c : Operand} {x y : Code} {b : Bool} (hb : aeval σ.slots c = sc (.bool b)) (h : T P (if b then x else y) σ Q) : T P (.cond c x y) σ Q := by
  intro base ρ a w hr
  have hv := aeval_ok hr.slots c
  have hs : (toF σ).slots = σ.slots := rfl
  rw [hs, hb] at hv
  have := VRepr_sc.1 hv
  simp [ICells, PCells] at this
  exact wp_cond this.symm (h base ρ a w hr)

def inBlk (id : Nat) (Q : Exit → St → Prop) : Exit → St → Prop
  | .exit id', σ => if id' = id then Q .normal σ else Q (.exit id') σ
  | e, σ => Q e σ
theorem T.block {id : Nat} {c : Code} (h : T P c σ (inBlk id Q)) : T P (.block id c) σ Q := by
  intro base ρ a w hr
  refine wp_block (wp_mono (h base ρ a w hr) ?_)
  rintro e a' w' ⟨σ', ρ', q, r⟩
  cases e with
  | exit id' =>
    simp only [Exit.inBlock]
    simp only [inBlk] at q
    split
    · rename_i e; rw [if_pos e] at q; exact ⟨σ', ρ', q, r⟩
    · rename_i e; rw [if_neg e] at q; exact ⟨σ', ρ', q, r⟩
  | _ => exact ⟨σ', ρ', q, r⟩

def noGo (Q : Exit → St → Prop) : Exit → St → Prop
  | .goto _, _ => False
  | e, σ => Q e σ
theorem T.scope {c : Code} (h : T P c σ (noGo Q)) : T P (.scope c) σ Q := by
  intro base ρ a w hr
  refine wp_scope_straight (wp_mono (h base ρ a w hr) ?_)
  rintro e a' w' ⟨σ', ρ', q, r⟩
  cases e with
  | goto l => exact q.elim
  | _ => exact ⟨σ', ρ', q, r⟩

/-- One state stands for no more than another one does. -/
def Weak (σ σ' : St) : Prop := ∀ base ρ a w, Rel base σ ρ a w → ∃ ρ', Rel base σ' ρ' a w
theorem Weak.refl (σ : St) : Weak σ σ := fun _ ρ _ _ h => ⟨ρ, h⟩
theorem Weak.trans {a b c : St} (h : Weak a b) (h' : Weak b c) : Weak a c := fun base ρ x w hr => let ⟨ρ', h1⟩ := h base ρ x w hr; h' base ρ' x w h1
theorem T.weak {c : Code} {σ' : St} (hw : Weak σ σ') (h : T P c σ' Q) : T P c σ Q := fun base ρ a w hr => let ⟨ρ', hr'⟩ := hw base ρ a w hr; h base ρ' a w hr'

/-- A LOOP: what holds at each round's head (I), with a number that each round makes less. -/
theorem T.loopI {c : Code} (I : Nat → St → Prop) (h0 : ∃ n σ', Weak σ σ' ∧ I n σ')
    (round : ∀ n σ, I n σ → T P c σ (andThen (fun σ' => ∃ m σ'', m < n ∧ Weak σ' σ'' ∧ I m σ'') Q)) : T P (.loop c) σ Q := by
  intro base ρ a w hr b k cs
  have key : ∀ n σ ρ a w, I n σ → Rel base σ ρ a w →
      ∃ e a' w', (∃ σ' ρ', Q e σ' ∧ Rel base σ' ρ' a' w') ∧ Arrives P (lone (b.at a (.code c :: .inLoop c :: k)) cs w) b k cs e a' w' := by
    intro n
    induction n using Nat.strongRecOn with
    | _ n ih =>
      intro σ ρ a w hI hr
      obtain ⟨e, a1, w1, ⟨σ1, ρ1, hq, hr1⟩, harr⟩ := round n σ hI base ρ a w hr b (.inLoop c :: k) cs
      cases e with
      | normal =>
        obtain ⟨m, σ2, hlt, hw, hI2⟩ := hq
        obtain ⟨ρ2, hr2⟩ := hw base ρ1 a1 w1 hr1
        obtain ⟨e2, a2, w2, hq2, harr2⟩ := ih m hlt σ2 ρ2 a1 w1 hI2 hr2
        exact ⟨e2, a2, w2, hq2, .of_steps (Steps.trans harr (.one step_inLoop)) harr2⟩
      | exit id => exact ⟨_, a1, w1, ⟨σ1, ρ1, hq, hr1⟩, .pass (x := .inLoop c) rfl (fun _ _ => .inl (by simp)) harr⟩
      | goto l => exact ⟨_, a1, w1, ⟨σ1, ρ1, hq, hr1⟩, .pass (x := .inLoop c) rfl (fun _ _ => .inl (by simp)) harr⟩
      | ret => exact ⟨_, a1, w1, ⟨σ1, ρ1, hq, hr1⟩, .pass (x := .inLoop c) rfl (fun _ _ => .inl (by simp)) harr⟩
      | panic ch => exact ⟨_, a1, w1, ⟨σ1, ρ1, hq, hr1⟩, .pass (x := .inLoop c) rfl (fun _ _ => .inl (by simp)) harr⟩
      | outgrown => exact ⟨_, a1, w1, ⟨σ1, ρ1, hq, hr1⟩, .pass (x := .inLoop c) rfl (fun _ _ => .inl (by simp)) harr⟩
  obtain ⟨n, σ', hw, hI⟩ := h0
  obtain ⟨ρ', hr'⟩ := hw base ρ a w hr
  obtain ⟨e, a', w', hq, harr⟩ := key n σ' ρ' a w hI hr'
  exact ⟨e, a', w', hq, .of_steps (.one step_loop) harr⟩

/-! ### Code that is evaluated whole -/
inductive Ex where
  | normal
  | exit (id : Nat)
  | ret
def Ex.up : Ex → Exit
  | .normal => .normal
  | .exit id => .exit id
  | .ret => .ret

def loopN (f : St → Option (Ex × St)) : Nat → St → Option (Ex × St)
  | 0, _ => none
  | n + 1, s => match f s with
    | some (.normal, s') => loopN f n s'
    | r => r

def evc (P : Program) (Γ : FuncId → Option Ct) (fuel : Nat) : Code → St → Option (Ex × St)
  | .skip, s => some (.normal, s)
  | .region _ ops draw, s => (evR P Γ ops draw s).map fun t => (.normal, t)
  | .seq x y, s => match evc P Γ fuel x s with
    | some (.normal, s') => evc P Γ fuel y s'
    | r => r
  | .cond c x y, s => match aeval s.slots c with
    | .val false [.bool true] => evc P Γ fuel x s
    | .val false [.bool false] => evc P Γ fuel y s
    | _ => none
  | .block id c, s => match evc P Γ fuel c s with
    | some (.exit id', s') => if id' = id then some (.normal, s') else some (.exit id', s')
    | r => r
  | .loop c, s => loopN (fun t => evc P Γ fuel c t) fuel s
  | .scope c, s => evc P Γ fuel c s
  | .exit id, s => some (.exit id, s)
  | .label _, s => some (.normal, s)
  | .ret, s => some (.ret, s)
  | _, _ => none

theorem T.run {Γ : FuncId → Option Ct} (hΓ : GSound P Γ) (hm : P.follows .mixedOrders = true) (fuel : Nat) : ∀ (c : Code) {σ σ' : St} {e : Ex} {Q : Exit → St → Prop}, evc P Γ fuel c σ = some (e, σ') → Q e.up σ' → T P c σ Q := by
  intro c
  induction c with
  | skip => intro σ σ' e Q h hq; simp [evc] at h; obtain ⟨rfl, rfl⟩ := h; exact T.skip hq
  | region id ops draw =>
    intro σ σ' e Q h hq
    cases hr : evR P Γ ops draw σ with
    | none => simp [evc, hr] at h
    | some t => simp [evc, hr] at h; obtain ⟨rfl, rfl⟩ := h; exact T.region hΓ hm hr hq
  | seq x y ihx ihy =>
    intro σ σ' e Q h hq
    simp only [evc] at h
    refine T.seq ?_
    cases hx : evc P Γ fuel x σ with
    | none => simp [hx] at h
    | some r =>
      obtain ⟨e1, s1⟩ := r
      rw [hx] at h
      cases e1 with
      | normal => exact ihx hx (show T P y s1 Q from ihy h hq)
      | exit id => simp at h; obtain ⟨rfl, rfl⟩ := h; exact ihx hx hq
      | ret => simp at h; obtain ⟨rfl, rfl⟩ := h; exact ihx hx hq
  | cond c x y ihx ihy =>
    intro σ σ' e Q h hq
    simp only [evc] at h
    split at h
    · rename_i hb; exact T.cond (b := true) hb (ihx h hq)
    · rename_i hb; exact T.cond (b := false) hb (ihy h hq)
    · simp at h
  | block id c ih =>
    intro σ σ' e Q h hq
    simp only [evc] at h
    refine T.block ?_
    cases hx : evc P Γ fuel c σ with
    | none => simp [hx] at h
    | some r =>
      obtain ⟨e1, s1⟩ := r
      rw [hx] at h
      cases e1 with
      | normal => simp at h; obtain ⟨rfl, rfl⟩ := h; exact ih hx hq
      | exit id' =>
        simp only at h
        refine ih hx ?_
        show (if id' = id then Q .normal s1 else Q (.exit id') s1)
        split at h
        · rename_i he; simp at h; obtain ⟨rfl, rfl⟩ := h; rw [if_pos he]; exact hq
        · rename_i he; simp at h; obtain ⟨rfl, rfl⟩ := h; rw [if_neg he]; exact hq
      | ret => simp at h; obtain ⟨rfl, rfl⟩ := h; exact ih hx hq
  | loop c ih =>
    intro σ σ' e Q h hq
    simp only [evc] at h
    refine T.loopI (fun n s => loopN (fun t => evc P Γ fuel c t) n s = some (e, σ')) ⟨fuel, σ, Weak.refl σ, h⟩ fun n s hI => ?_
    cases n with
    | zero => simp [loopN] at hI
    | succ n =>
      simp only [loopN] at hI
      split at hI
      · rename_i s1 hs1
        exact ih hs1 ⟨n, s1, Nat.lt_succ_self n, Weak.refl s1, hI⟩
      · rename_i hne
        cases e with
        | normal => exact absurd hI (hne σ')
        | exit id => exact ih hI hq
        | ret => exact ih hI hq
  | scope c ih =>
    intro σ σ' e Q h hq
    simp only [evc] at h
    refine T.scope (ih h ?_)
    cases e <;> exact hq
  | exit id => intro σ σ' e Q h hq; simp [evc] at h; obtain ⟨rfl, rfl⟩ := h; exact T.exit hq
  | label l => intro σ σ' e Q h hq; simp [evc] at h; obtain ⟨rfl, rfl⟩ := h; exact T.label hq
  | ret => intro σ σ' e Q h hq; simp [evc] at h; obtain ⟨rfl, rfl⟩ := h; exact T.ret hq
  | goto l => intro σ σ' e Q h; simp [evc] at h
  | rangeFunc f p a b => intro σ σ' e Q h; simp [evc] at h
  | refuse w => intro σ σ' e Q h; simp [evc] at h
end
end Go.Ev
