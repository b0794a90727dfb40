/- Texts put together: EvK EvL. Own work. -/
import Derived.Test.YtlgiaglbdifkpaaGreatDoorMgch
import Derived.Scope
/- Code: its evaluation, rules for what it leaves, loops, functions. Own work; no statement of the seat is proved here. -/
namespace Go.Ev
open Go.RowKit

abbrev Heap := List (Nat × Blk)
def hget : Heap → Nat → Option Blk
  | [], _ => none
  | p :: r, k => if p.1 = k then some p.2 else hget r k
def hput : Heap → Nat → Blk → Heap
  | [], k, b => [(k, b)]
  | p :: r, k, b => if p.1 = k then (k, b) :: r else p :: hput r k b
def hdel : Heap → Nat → Heap
  | [], _ => []
  | p :: r, k => if p.1 = k then hdel r k else p :: hdel r k
def hup : Heap → Upd → Heap
  | h, [] => h
  | h, u :: r => match u.2 with
    | some b => hup (hput h u.1 b) r
    | none => hup (hdel h u.1) r

theorem hget_hput : ∀ (h : Heap) (k : Nat) (b : Blk), hget (hput h k b) = updh (hget h) k (some b)
  | [], k, b => by
    funext j
    simp only [hput, hget, updh]
    by_cases e : k = j
    · simp [e]
    · simp [e, Ne.symm e]
  | p :: r, k, b => by
    funext j
    simp only [hput]
    split
    · rename_i e
      simp only [hget, updh, e]
      by_cases e' : k = j
      · simp [e']
      · simp [e', Ne.symm e']
    · rename_i e
      simp only [hget, hget_hput r k b, updh]
      by_cases e' : p.1 = j
      · have : j ≠ k := fun q => e (by omega)
        simp [e', this]
      · simp [e']
theorem hget_hdel : ∀ (h : Heap) (k : Nat), hget (hdel h k) = updh (hget h) k none
  | [], k => by funext j; simp [hdel, hget, updh]
  | p :: r, k => by
    funext j
    simp only [hdel]
    split
    · rename_i e
      rw [hget_hdel r k]
      simp only [hget, updh, e]
      by_cases e' : j = k
      · simp [e']
      · simp [e', Ne.symm e']
    · rename_i e
      simp only [hget, hget_hdel r k, updh]
      by_cases e' : p.1 = j
      · have : j ≠ k := fun q => e (by omega)
        simp [e', this]
      · simp [e']
theorem hget_hup : ∀ (upd : Upd) (h : Heap), hget (hup h upd) = applyU (hget h) upd
  | [], _ => rfl
  | (k, some b) :: r, h => by simp only [hup, applyU]; rw [hget_hup r, hget_hput]
  | (k, none) :: r, h => by simp only [hup, applyU]; rw [hget_hup r, hget_hdel]

structure St where
  slots : List AV
  heap : Heap
  next : Nat

def toF (s : St) : FSt := ⟨s.slots, hget s.heap⟩

section
variable (P : Program) (Γ : FuncId → Option Ct)

def stepL (N : Nat) (mask : Nat → Msk) (ops : Array Oper) (o : Oper) (i : Nat) (slots : List AV) (heap : Heap) : Option (List AV × Heap) :=
  match wantedA ops slots o with
  | none => none
  | some false => some (putS slots o.dst (.tup []), heap)
  | some true =>
    match acore P Γ o (aeval slots) (if readsOp o.op then fun k => if okId N (mask i) i k then hget heap k else none else fun _ => none) (N + 16 * i) with
    | none => none
    | some (v, upd) => if updOK N mask ops i o upd then some (putS slots o.dst v, hup heap upd) else none

def runL (N : Nat) (mask : Nat → Msk) (ops : Array Oper) : List Oper → Nat → List AV → Heap → Option (List AV × Heap)
  | [], _, slots, heap => some (slots, heap)
  | o :: r, i, slots, heap =>
    match stepL P Γ N mask ops o i slots heap with
    | some q => runL N mask ops r (i + 1) q.1 q.2
    | none => none

def seqMask (i : Nat) : Msk := ⟨2 ^ i - 1, none⟩
/-- The block that a pointer refers to which no operation of the region makes. -/
def fixedP (ops : Array Oper) (slots : List AV) (x : Operand) : Option Nat :=
  match x with
  | .tmp t => if ops.toList.any (fun o => match o.dst with | some d => d == t | none => false) then none else (aeval slots (.tmp t)).ptr?.map (·.1)
  | _ => none
/-- The block of a slice which no operation of the region makes, or that one moves. -/
def sliceBlk (x : AV) : Option Nat :=
  match x.one? with
  | some (.sl k _ _) => some k
  | _ => none
def fixedS (ops : Array Oper) (slots : List AV) (x : Operand) : Option Nat :=
  match x with
  | .tmp t => match ops.toList.find? (fun o => match o.dst with | some d => d == t | none => false) with
    | none => sliceBlk (aeval slots (.tmp t))
    | some o => match o.op with
      | .move (.tmp u) => if ops.toList.any (fun o => match o.dst with | some d => d == u | none => false) then none else sliceBlk (aeval slots (.tmp u))
      | _ => none
  | _ => none
/-- The one old block that an operation looks at, where that is known. -/
def viewOf (ops : Array Oper) (slots : List AV) (i : Nat) : Option Nat :=
  match ops[i]? with
  | some o => match o.op with
    | .load _ x => fixedP ops slots x
    | .store _ x _ => fixedP ops slots x
    | .slice _ x _ _ _ => fixedS ops slots x
    | _ => none
  | none => none

/-- A region. -/
def evR (ops : Array Oper) (draw : Bool) (s : St) : Option St :=
  if draw && !(regOK ops.toList) then none
  else match runL P Γ s.next (if draw then mkW (viewOf ops s.slots) ops else seqMask) ops ops.toList 0 s.slots s.heap with
    | some q => some ⟨q.1, q.2, s.next + 16 * ops.size⟩
    | none => none
end

theorem stepL_astep {P : Program} {Γ : FuncId → Option Ct} {N : Nat} {mask : Nat → Msk} {ops : Array Oper} {o : Oper} {i : Nat} {slots : List AV} {heap : Heap} {q : List AV × Heap} (ho : ops[i]? = some o)
    (h : stepL P Γ N mask ops o i slots heap = some q) : astep P Γ N mask ops i ⟨slots, hget heap⟩ = some ⟨q.1, hget q.2⟩ := by
  unfold stepL at h
  unfold astep
  simp only [ho]
  split at h
  · simp at h
  · rename_i hw; simp at h; subst h; simp only [hw]
  · rename_i hw
    split at h
    · simp at h
    · rename_i hc
      split at h
      case isFalse => simp at h
      rename_i hall
      simp at h
      subst h
      simp only [hw, hc, hall, if_true, hget_hup]

theorem runL_runF {P : Program} {Γ : FuncId → Option Ct} {N : Nat} {mask : Nat → Msk} {ops : Array Oper} : ∀ (l : List Oper) (k : Nat) (slots : List AV) (heap : Heap) (q : List AV × Heap),
    (∀ i, l[i]? = ops[k + i]?) → runL P Γ N mask ops l k slots heap = some q → runF P Γ N mask ops l.length k ⟨slots, hget heap⟩ = some ⟨q.1, hget q.2⟩ := by
  intro l
  induction l with
  | nil => intro k slots heap q _ h; simp [runL] at h; subst h; rfl
  | cons o r ih =>
    intro k slots heap q hl h
    simp only [runL] at h
    split at h
    case h_2 => simp at h
    rename_i q1 hq1
    simp only [List.length_cons, runF]
    rw [stepL_astep (by have := hl 0; simpa using this.symm) hq1]
    exact ih (k + 1) q1.1 q1.2 q (fun i => by have := hl (i + 1); simpa [Nat.add_assoc, Nat.add_comm 1 i] using this) h

def Rel (base : World) (σ : St) (ρ : Nat → Pl) (a : Act) (w : World) : Prop := RelF σ.next base ρ a w (toF σ) (fun _ => false)

/-- WHAT CODE LEAVES: from whatever the state σ stands for, it ends in something that a state stands for of which Q holds. -/
def T (P : Program) (c : Code) (σ : St) (Q : Exit → St → Prop) : Prop :=
  ∀ base ρ a w, Rel base σ ρ a w → c.wp P (fun e a' w' => ∃ σ' ρ', Q e σ' ∧ Rel base σ' ρ' a' w') a w

section
variable {P : Program} {Q : Exit → St → Prop} {σ : St}

theorem T.mono {c : Code} {Q' : Exit → St → Prop} (h : T P c σ Q) (hq : ∀ e σ, Q e σ → Q' e σ) : T P c σ Q' :=
  fun base ρ a w hr => wp_mono (h base ρ a w hr) fun e _ _ ⟨σ', ρ', q, r⟩ => ⟨σ', ρ', hq e σ' q, r⟩

theorem T.region {Γ : FuncId → Option Ct} (hΓ : GSound P Γ) (hm : P.follows .mixedOrders = true) {id : Nat} {ops : Array Oper} {draw : Bool} {σ' : St} (h : evR P Γ ops draw σ = some σ') (hq : Q .normal σ') : T P (.region id ops draw) σ Q := by
  intro base ρ a w hr
  unfold evR at h
  split at h
  · simp at h
  rename_i hd
  split at h
  case h_2 => simp at h
  rename_i q hrun
  simp at h
  subst h
  have hF := runL_runF ops.toList 0 σ.slots σ.heap q (fun i => by simp) hrun
  have fin : ∀ (ρ' : Nat → Pl) (a' : Act) (w' : World), Ext ρ ρ' → RelF σ.next base ρ' a' w' ⟨q.1, hget q.2⟩ (fun j => decide (j < ops.size)) → ∃ σ'' ρ'', Q .normal σ'' ∧ Rel base σ'' ρ'' a' w' := by
    intro ρ' a' w' _ hr'
    refine ⟨_, ρ', hq, hr'.defers, hr'.slots, hr'.heap, hr'.below, fun k hk hu => ?_⟩
    have hk' : σ.next ≤ k := by simp at hk; omega
    have := hr'.fresh k hk' hu
    simp at this hk
    omega
  have hlen : ops.toList.length = ops.size := by simp
  rw [hlen] at hF
  cases draw with
  | true =>
    simp only [Bool.true_and, Bool.not_eq_true', Bool.not_eq_false] at hd
    simp only [if_true] at hF
    exact region_draw hΓ (N := σ.next) hm hd hr hF fin
  | false =>
    simp only [Bool.false_eq_true, if_false] at hF
    exact region_seq hΓ fin hr hF

theorem T.skip (h : Q .normal σ) : T P .skip σ Q := fun _ ρ _ _ hr => wp_skip ⟨σ, ρ, h, hr⟩
theorem T.label {l : Nat} (h : Q .normal σ) : T P (.label l) σ Q := fun _ ρ _ _ hr => wp_label ⟨σ, ρ, h, hr⟩
theorem T.exit {id : Nat} (h : Q (.exit id) σ) : T P (.exit id) σ Q := fun _ ρ _ _ hr => wp_exit ⟨σ, ρ, h, hr⟩
theorem T.ret (h : Q .ret σ) : T P .ret σ Q := fun _ ρ _ _ hr => wp_ret ⟨σ, ρ, h, hr⟩

/-- What comes behind, where it ends as usual. -/
def andThen (next : St → Prop) (Q : Exit → St → Prop) : Exit → St → Prop
  | .normal, σ => next σ
  | e, σ => Q e σ
theorem T.seq {x y : Code} (h : T P x σ (andThen (fun σ' => T P y σ' Q) Q)) : T P (.seq x y) σ Q := by
  intro base ρ a w hr
  refine wp_seq (wp_mono (h base ρ a w hr) ?_)
  rintro e a' w' ⟨σ', ρ', q, r⟩
  cases e with
  | normal => exact q base ρ' a' w' r
  | _ => exact ⟨σ', ρ', q, r⟩

theorem T.cond {c : Operand} {x y : Code} {b : Bool} (hb : aeval σ.slots c = sc (.bool b)) (h : T P (if b then x else y) σ Q) : T P (.cond c x y) σ Q := by
  intro base ρ a w hr
  have hv := aeval_ok hr.slots c
  have hs : (toF σ).slots = σ.slots := rfl
  rw [hs, hb] at hv
  have := VRepr_sc.1 hv
  simp [ICells, PCells] at this
  exact wp_cond this.symm (h base ρ a w hr)

def inBlk (id : Nat) (Q : Exit → St → Prop) : Exit → St → Prop
  | .exit id', σ => if id' = id then Q .normal σ else Q (.exit id') σ
  | e, σ => Q e σ
theorem T.block {id : Nat} {c : Code} (h : T P c σ (inBlk id Q)) : T P (.block id c) σ Q := by
  intro base ρ a w hr
  refine wp_block (wp_mono (h base ρ a w hr) ?_)
  rintro e a' w' ⟨σ', ρ', q, r⟩
  cases e with
  | exit id' =>
    simp only [Exit.inBlock]
    simp only [inBlk] at q
    split
    · rename_i e; rw [if_pos e] at q; exact ⟨σ', ρ', q, r⟩
    · rename_i e; rw [if_neg e] at q; exact ⟨σ', ρ', q, r⟩
  | _ => exact ⟨σ', ρ', q, r⟩

def noGo (Q : Exit → St → Prop) : Exit → St → Prop
  | .goto _, _ => False
  | e, σ => Q e σ
theorem T.scope {c : Code} (h : T P c σ (noGo Q)) : T P (.scope c) σ Q := by
  intro base ρ a w hr
  refine wp_scope_straight (wp_mono (h base ρ a w hr) ?_)
  rintro e a' w' ⟨σ', ρ', q, r⟩
  cases e with
  | goto l => exact q.elim
  | _ => exact ⟨σ', ρ', q, r⟩

/-- One state stands for no more than another one does. -/
def Weak (σ σ' : St) : Prop := ∀ base ρ a w, Rel base σ ρ a w → ∃ ρ', Rel base σ' ρ' a w
theorem Weak.refl (σ : St) : Weak σ σ := fun _ ρ _ _ h => ⟨ρ, h⟩
theorem Weak.trans {a b c : St} (h : Weak a b) (h' : Weak b c) : Weak a c := fun base ρ x w hr => let ⟨ρ', h1⟩ := h base ρ x w hr; h' base ρ' x w h1
theorem T.weak {c : Code} {σ' : St} (hw : Weak σ σ') (h : T P c σ' Q) : T P c σ Q := fun base ρ a w hr => let ⟨ρ', hr'⟩ := hw base ρ a w hr; h base ρ' a w hr'

/-- A LOOP: what holds at each round's head (I), with a number that each round makes less. -/
theorem T.loopI {c : Code} (I : Nat → St → Prop) (h0 : ∃ n σ', Weak σ σ' ∧ I n σ')
    (round : ∀ n σ, I n σ → T P c σ (andThen (fun σ' => ∃ m σ'', m < n ∧ Weak σ' σ'' ∧ I m σ'') Q)) : T P (.loop c) σ Q := by
  intro base ρ a w hr b k cs
  have key : ∀ n σ ρ a w, I n σ → Rel base σ ρ a w →
      ∃ e a' w', (∃ σ' ρ', Q e σ' ∧ Rel base σ' ρ' a' w') ∧ Arrives P (lone (b.at a (.code c :: .inLoop c :: k)) cs w) b k cs e a' w' := by
    intro n
    induction n using Nat.strongRecOn with
    | _ n ih =>
      intro σ ρ a w hI hr
      obtain ⟨e, a1, w1, ⟨σ1, ρ1, hq, hr1⟩, harr⟩ := round n σ hI base ρ a w hr b (.inLoop c :: k) cs
      cases e with
      | normal =>
        obtain ⟨m, σ2, hlt, hw, hI2⟩ := hq
        obtain ⟨ρ2, hr2⟩ := hw base ρ1 a1 w1 hr1
        obtain ⟨e2, a2, w2, hq2, harr2⟩ := ih m hlt σ2 ρ2 a1 w1 hI2 hr2
        exact ⟨e2, a2, w2, hq2, .of_steps (Steps.trans harr (.one step_inLoop)) harr2⟩
      | exit id => exact ⟨_, a1, w1, ⟨σ1, ρ1, hq, hr1⟩, .pass (x := .inLoop c) rfl (fun _ _ => .inl (by simp)) harr⟩
      | goto l => exact ⟨_, a1, w1, ⟨σ1, ρ1, hq, hr1⟩, .pass (x := .inLoop c) rfl (fun _ _ => .inl (by simp)) harr⟩
      | ret => exact ⟨_, a1, w1, ⟨σ1, ρ1, hq, hr1⟩, .pass (x := .inLoop c) rfl (fun _ _ => .inl (by simp)) harr⟩
      | panic ch => exact ⟨_, a1, w1, ⟨σ1, ρ1, hq, hr1⟩, .pass (x := .inLoop c) rfl (fun _ _ => .inl (by simp)) harr⟩
      | outgrown => exact ⟨_, a1, w1, ⟨σ1, ρ1, hq, hr1⟩, .pass (x := .inLoop c) rfl (fun _ _ => .inl (by simp)) harr⟩
  obtain ⟨n, σ', hw, hI⟩ := h0
  obtain ⟨ρ', hr'⟩ := hw base ρ a w hr
  obtain ⟨e, a', w', hq, harr⟩ := key n σ' ρ' a w hI hr'
  exact ⟨e, a', w', hq, .of_steps (.one step_loop) harr⟩

/-! ### Code that is evaluated whole -/
inductive Ex where
  | normal
  | exit (id : Nat)
  | ret
def Ex.up : Ex → Exit
  | .normal => .normal
  | .exit id => .exit id
  | .ret => .ret

def loopN (f : St → Option (Ex × St)) : Nat → St → Option (Ex × St)
  | 0, _ => none
  | n + 1, s => match f s with
    | some (.normal, s') => loopN f n s'
    | r => r

def evc (P : Program) (Γ : FuncId → Option Ct) (fuel : Nat) : Code → St → Option (Ex × St)
  | .skip, s => some (.normal, s)
  | .region _ ops draw, s => (evR P Γ ops draw s).map fun t => (.normal, t)
  | .seq x y, s => match evc P Γ fuel x s with
    | some (.normal, s') => evc P Γ fuel y s'
    | r => r
  | .cond c x y, s => match aeval s.slots c with
    | .val false [.bool true] => evc P Γ fuel x s
    | .val false [.bool false] => evc P Γ fuel y s
    | _ => none
  | .block id c, s => match evc P Γ fuel c s with
    | some (.exit id', s') => if id' = id then some (.normal, s') else some (.exit id', s')
    | r => r
  | .loop c, s => loopN (fun t => evc P Γ fuel c t) fuel s
  | .scope c, s => evc P Γ fuel c s
  | .exit id, s => some (.exit id, s)
  | .label _, s => some (.normal, s)
  | .ret, s => some (.ret, s)
  | _, _ => none

theorem T.run {Γ : FuncId → Option Ct} (hΓ : GSound P Γ) (hm : P.follows .mixedOrders = true) (fuel : Nat) : ∀ (c : Code) {σ σ' : St} {e : Ex} {Q : Exit → St → Prop}, evc P Γ fuel c σ = some (e, σ') → Q e.up σ' → T P c σ Q := by
  intro c
  induction c with
  | skip => intro σ σ' e Q h hq; simp [evc] at h; obtain ⟨rfl, rfl⟩ := h; exact T.skip hq
  | region id ops draw =>
    intro σ σ' e Q h hq
    cases hr : evR P Γ ops draw σ with
    | none => simp [evc, hr] at h
    | some t => simp [evc, hr] at h; obtain ⟨rfl, rfl⟩ := h; exact T.region hΓ hm hr hq
  | seq x y ihx ihy =>
    intro σ σ' e Q h hq
    simp only [evc] at h
    refine T.seq ?_
    cases hx : evc P Γ fuel x σ with
    | none => simp [hx] at h
    | some r =>
      obtain ⟨e1, s1⟩ := r
      rw [hx] at h
      cases e1 with
      | normal => exact ihx hx (show T P y s1 Q from ihy h hq)
      | exit id => simp at h; obtain ⟨rfl, rfl⟩ := h; exact ihx hx hq
      | ret => simp at h; obtain ⟨rfl, rfl⟩ := h; exact ihx hx hq
  | cond c x y ihx ihy =>
    intro σ σ' e Q h hq
    simp only [evc] at h
    split at h
    · rename_i hb; exact T.cond (b := true) hb (ihx h hq)
    · rename_i hb; exact T.cond (b := false) hb (ihy h hq)
    · simp at h
  | block id c ih =>
    intro σ σ' e Q h hq
    simp only [evc] at h
    refine T.block ?_
    cases hx : evc P Γ fuel c σ with
    | none => simp [hx] at h
    | some r =>
      obtain ⟨e1, s1⟩ := r
      rw [hx] at h
      cases e1 with
      | normal => simp at h; obtain ⟨rfl, rfl⟩ := h; exact ih hx hq
      | exit id' =>
        simp only at h
        refine ih hx ?_
        show (if id' = id then Q .normal s1 else Q (.exit id') s1)
        split at h
        · rename_i he; simp at h; obtain ⟨rfl, rfl⟩ := h; rw [if_pos he]; exact hq
        · rename_i he; simp at h; obtain ⟨rfl, rfl⟩ := h; rw [if_neg he]; exact hq
      | ret => simp at h; obtain ⟨rfl, rfl⟩ := h; exact ih hx hq
  | loop c ih =>
    intro σ σ' e Q h hq
    simp only [evc] at h
    refine T.loopI (fun n s => loopN (fun t => evc P Γ fuel c t) n s = some (e, σ')) ⟨fuel, σ, Weak.refl σ, h⟩ fun n s hI => ?_
    cases n with
    | zero => simp [loopN] at hI
    | succ n =>
      simp only [loopN] at hI
      split at hI
      · rename_i s1 hs1
        exact ih hs1 ⟨n, s1, Nat.lt_succ_self n, Weak.refl s1, hI⟩
      · rename_i hne
        cases e with
        | normal => exact absurd hI (hne σ')
        | exit id => exact ih hI hq
        | ret => exact ih hI hq
  | scope c ih =>
    intro σ σ' e Q h hq
    simp only [evc] at h
    refine T.scope (ih h ?_)
    cases e <;> exact hq
  | exit id => intro σ σ' e Q h hq; simp [evc] at h; obtain ⟨rfl, rfl⟩ := h; exact T.exit hq
  | label l => intro σ σ' e Q h hq; simp [evc] at h; obtain ⟨rfl, rfl⟩ := h; exact T.label hq
  | ret => intro σ σ' e Q h hq; simp [evc] at h; obtain ⟨rfl, rfl⟩ := h; exact T.ret hq
  | goto l => intro σ σ' e Q h; simp [evc] at h
  | rangeFunc f p a b => intro σ σ' e Q h; simp [evc] at h
  | refuse w => intro σ σ' e Q h; simp [evc] at h
end
end Go.Ev
/- Functions: from their code to their contract. Own work; no statement of the seat is proved here. -/
namespace Go.Ev
open Go.RowKit

/-! ### What comes in: blocks that are only read -/
def innerI (F : Nat) : List (List Int) → List IV × List (Nat × Blk)
  | [] => ([], [])
  | l :: r => let q := innerI (F + 1) r; (.sl F 0 l.length :: q.1, (F, ⟨false, [.vi l.length l]⟩) :: q.2)
def inner8 (F : Nat) : List (List (BitVec 8)) → List IV × List (Nat × Blk)
  | [] => ([], [])
  | l :: r => let q := inner8 (F + 1) r; (.sl F 0 l.length :: q.1, (F, ⟨false, [.v8 l.length l]⟩) :: q.2)

def inI (F : Nat) : IV → IV × List (Nat × Blk) × Nat
  | .d8 l => (.sl F 0 l.length, [(F, ⟨false, [.v8 l.length l]⟩)], F + 1)
  | .r8 l => (.sl F 0 l.length, [(F, ⟨false, [.v8 l.length l]⟩)], F + 1)
  | .dI l => (.sl F 0 l.length, [(F, ⟨false, [.vi l.length l]⟩)], F + 1)
  | .dN x => (.sl F 0 (dg x).length, [(F, ⟨false, [.vd x]⟩)], F + 1)
  | .d32 l => (.sl F 0 l.length, [(F, ⟨false, [.v32 l.length l]⟩)], F + 1)
  | .d64 l => (.sl F 0 l.length, [(F, ⟨false, [.v64 l.length l]⟩)], F + 1)
  | .dn l => (.sl F 0 l.length, [(F, ⟨false, [.vn l.length l]⟩)], F + 1)
  | .dsI ls => (.sl (F + ls.length) 0 ls.length, (innerI F ls).2 ++ [(F + ls.length, ⟨false, (innerI F ls).1⟩)], F + ls.length + 1)
  | .ds8 ls => (.sl (F + ls.length) 0 ls.length, (inner8 F ls).2 ++ [(F + ls.length, ⟨false, (inner8 F ls).1⟩)], F + ls.length + 1)
  | i => (i, [], F)

def inL (F : Nat) : List IV → List IV × List (Nat × Blk) × Nat
  | [] => ([], [], F)
  | i :: r => let a := inI F i; let q := inL a.2.2 r; (a.1 :: q.1, a.2.1 ++ q.2.1, q.2.2)

def inAs (F : Nat) : List AV → List AV × List (Nat × Blk) × Nat
  | [] => ([], [], F)
  | .val g l :: r => let a := inL F l; let q := inAs a.2.2 r; (.val g a.1 :: q.1, a.2.1 ++ q.2.1, q.2.2)
  | x :: r => let q := inAs F r; (x :: q.1, q.2.1, q.2.2)

/-- Blocks so far, none of them one's own; the numbers from F on are free. -/
structure InOk (B : Nat) (ρ : Nat → Pl) (w : World) (h : Nat → Option Blk) (F : Nat) : Prop where
  ok : HOk B ρ w h
  ro : ∀ k b, h k = some b → b.own = false
  free : ∀ k, F ≤ k → ρ k = .un

theorem InOk.add {B : Nat} {ρ : Nat → Pl} {w : World} {h : Nat → Option Blk} {F : Nat} (hi : InOk B ρ w h F) (p : Pl) (items : List IV) (hb : BlkOk B (updρ ρ F p) w F ⟨false, items⟩) :
    InOk B (updρ ρ F p) w (updh h F (some ⟨false, items⟩)) (F + 1) := by
  have he := ext_updρ (hi.free F (Nat.le_refl _)) p
  refine ⟨⟨fun k b hk => ?_, fun k k' b b' hk hk' hne ho => ?_⟩, fun k b hk => ?_, fun k hk => ?_⟩
  · by_cases e : k = F
    · subst e; simp [updh] at hk; subst hk; exact hb
    · simp [updh, e] at hk; exact (hi.ok.blk k b hk).ext he
  · exfalso
    by_cases e : k = F
    · subst e; simp [updh] at hk; subst hk; simp at ho
    · simp [updh, e] at hk; have := hi.ro k b hk; rw [this] at ho; simp at ho
  · by_cases e : k = F
    · subst e; simp [updh] at hk; subst hk; rfl
    · simp [updh, e] at hk; exact hi.ro k b hk
  · rw [updρ_other _ _ _ (by omega)]; exact hi.free k (by omega)

/-- One slice that comes in. -/
theorem in_slice {B : Nat} {ρ : Nat → Pl} {w : World} {h : Nat → Option Blk} {F : Nat} (hi : InOk B ρ w h F) {n : Nat} {vs : List Value} {v : Value} {items : List IV}
    (hr : RdSl w n vs v) (hL : LCells ρ items vs) :
    ∃ ρ', Ext ρ ρ' ∧ ICells ρ' (.sl F 0 n) [v] ∧ InOk B ρ' w (updh h F (some ⟨false, items⟩)) (F + 1) := by
  have hu := hi.free F (Nat.le_refl _)
  rcases hr with ⟨blk, off, cap, rfl, hle, hlt, hc⟩ | ⟨rfl, rfl, a, rfl⟩
  · refine ⟨updρ ρ F (.at ⟨blk, off, cap⟩), ext_updρ hu _, .inl ⟨⟨blk, off, cap⟩, cap, updρ_same _ _ _, hle, by simp, by simp⟩, hi.add _ _ ?_⟩
    simp only [BlkOk, updρ_same]
    exact ⟨vs, hL.ext (ext_updρ hu _), fun e => by simp at e, fun _ => ⟨hlt, hc⟩⟩
  · refine ⟨updρ ρ F .ph, ext_updρ hu _, .inr ⟨rfl, by rw [updρ_same]; simp, a, rfl⟩, hi.add _ _ ?_⟩
    simp only [BlkOk, updρ_same]
    exact hL.ext (ext_updρ hu _)

theorem mkU_append (a b : List (Nat × Blk)) : mkU (a ++ b) = mkU a ++ mkU b := by simp [mkU]
theorem applyU_append : ∀ (a b : Upd) (h : Nat → Option Blk), applyU h (a ++ b) = applyU (applyU h a) b
  | [], _, _ => rfl
  | u :: a, b, h => by simp only [List.cons_append, applyU, applyU_append a b]

theorem in_innerI {B : Nat} {w : World} : ∀ (ls : List (List Int)) (ρ : Nat → Pl) (h : Nat → Option Blk) (F : Nat) (vs : List Value), InOk B ρ w h F → F2 (fun l u => RdSl w (List.length l) (l.map intVal) u) ls vs →
    ∃ ρ', Ext ρ ρ' ∧ LCells ρ' (innerI F ls).1 vs ∧ InOk B ρ' w (applyU h (mkU (innerI F ls).2)) (F + ls.length) := by
  intro ls
  induction ls with
  | nil =>
    intro ρ h F vs hi hv
    match vs, hv with
    | [], _ => exact ⟨ρ, Ext.refl ρ, rfl, hi⟩
  | cons l r ih =>
    intro ρ h F vs hi hv
    match vs, hv with
    | v :: vs, ⟨h1, h2⟩ =>
      obtain ⟨ρ1, e1, s1, i1⟩ := in_slice hi h1 (LCells_single (ρ := ρ) (i := .vi l.length l) (by simp [ICells, PCells]))
      obtain ⟨ρ2, e2, s2, i2⟩ := ih ρ1 _ (F + 1) vs i1 h2
      refine ⟨ρ2, e1.trans e2, ⟨[v], vs, rfl, s1.ext e2, s2⟩, ?_⟩
      have : F + (l :: r).length = F + 1 + r.length := by simp; omega
      rw [this]
      exact i2
theorem in_inner8 {B : Nat} {w : World} : ∀ (ls : List (List (BitVec 8))) (ρ : Nat → Pl) (h : Nat → Option Blk) (F : Nat) (vs : List Value), InOk B ρ w h F → F2 (fun l u => RdSl w (List.length l) (l.map byteVal) u) ls vs →
    ∃ ρ', Ext ρ ρ' ∧ LCells ρ' (inner8 F ls).1 vs ∧ InOk B ρ' w (applyU h (mkU (inner8 F ls).2)) (F + ls.length) := by
  intro ls
  induction ls with
  | nil =>
    intro ρ h F vs hi hv
    match vs, hv with
    | [], _ => exact ⟨ρ, Ext.refl ρ, rfl, hi⟩
  | cons l r ih =>
    intro ρ h F vs hi hv
    match vs, hv with
    | v :: vs, ⟨h1, h2⟩ =>
      obtain ⟨ρ1, e1, s1, i1⟩ := in_slice hi h1 (LCells_single (ρ := ρ) (i := .v8 l.length l) (by simp [ICells, PCells]))
      obtain ⟨ρ2, e2, s2, i2⟩ := ih ρ1 _ (F + 1) vs i1 h2
      refine ⟨ρ2, e1.trans e2, ⟨[v], vs, rfl, s1.ext e2, s2⟩, ?_⟩
      have : F + (l :: r).length = F + 1 + r.length := by simp; omega
      rw [this]
      exact i2

theorem in_item {B : Nat} {w : World} (i : IV) (ρ : Nat → Pl) (h : Nat → Option Blk) (F : Nat) (vs : List Value) (hi : InOk B ρ w h F) (hd : DCells w i vs) :
    ∃ ρ', Ext ρ ρ' ∧ ICells ρ' (inI F i).1 vs ∧ InOk B ρ' w (applyU h (mkU (inI F i).2.1)) (inI F i).2.2 := by
  have one : ∀ {n : Nat} {us : List Value} {v : Value} {it : IV}, vs = [v] → RdSl w n us v → PCells it = some us → ∃ ρ', Ext ρ ρ' ∧ ICells ρ' (.sl F 0 n) vs ∧ InOk B ρ' w (updh h F (some ⟨false, [it]⟩)) (F + 1) := by
    rintro n us v it rfl hr hp
    exact in_slice hi hr (LCells_single (ICells_of_P hp))
  have plain : PCells i = some vs → inI F i = (i, [], F) → ∃ ρ', Ext ρ ρ' ∧ ICells ρ' (inI F i).1 vs ∧ InOk B ρ' w (applyU h (mkU (inI F i).2.1)) (inI F i).2.2 := by
    intro hp he
    rw [he]
    exact ⟨ρ, Ext.refl ρ, ICells_of_P hp, hi⟩
  cases i
  case d8 l => obtain ⟨v, hv, hr⟩ := hd; exact one hv hr (by simp [PCells])
  case r8 l => obtain ⟨v, hv, hr⟩ := hd; exact one hv hr (by simp [PCells])
  case dI l => obtain ⟨v, hv, hr⟩ := hd; exact one hv hr (by simp [PCells])
  case dN x => obtain ⟨v, hv, hr⟩ := hd; exact one hv hr (by simp [PCells])
  case d32 l => obtain ⟨v, hv, hr⟩ := hd; exact one hv hr (by simp [PCells])
  case d64 l => obtain ⟨v, hv, hr⟩ := hd; exact one hv hr (by simp [PCells])
  case dn l => obtain ⟨v, hv, hr⟩ := hd; exact one hv hr (by simp [PCells])
  case dsI ls =>
    obtain ⟨v, inner, rfl, hr, hin⟩ := hd
    obtain ⟨ρ1, e1, s1, i1⟩ := in_innerI ls ρ h F inner hi hin
    obtain ⟨ρ2, e2, s2, i2⟩ := in_slice i1 hr s1
    refine ⟨ρ2, e1.trans e2, s2, ?_⟩
    simp only [inI, mkU_append, applyU_append]
    exact i2
  case ds8 ls =>
    obtain ⟨v, inner, rfl, hr, hin⟩ := hd
    obtain ⟨ρ1, e1, s1, i1⟩ := in_inner8 ls ρ h F inner hi hin
    obtain ⟨ρ2, e2, s2, i2⟩ := in_slice i1 hr s1
    refine ⟨ρ2, e1.trans e2, s2, ?_⟩
    simp only [inI, mkU_append, applyU_append]
    exact i2
  case sl => exact hd.elim
  case ptr => exact hd.elim
  all_goals exact plain hd rfl

theorem in_list {B : Nat} {w : World} : ∀ (l : List IV) (ρ : Nat → Pl) (h : Nat → Option Blk) (F : Nat) (vs : List Value), InOk B ρ w h F → DLs w l vs →
    ∃ ρ', Ext ρ ρ' ∧ LCells ρ' (inL F l).1 vs ∧ InOk B ρ' w (applyU h (mkU (inL F l).2.1)) (inL F l).2.2
  | [], ρ, _, _, _, hi, hd => ⟨ρ, Ext.refl ρ, hd, hi⟩
  | i :: r, ρ, h, F, _, hi, ⟨a, b, hab, ha, hb⟩ => by
    obtain ⟨ρ1, e1, s1, i1⟩ := in_item i ρ h F a hi ha
    obtain ⟨ρ2, e2, s2, i2⟩ := in_list r ρ1 _ _ b i1 hb
    refine ⟨ρ2, e1.trans e2, ⟨a, b, hab, s1.ext e2, s2⟩, ?_⟩
    simp only [inL, mkU_append, applyU_append]
    exact i2

theorem in_args {B : Nat} {w : World} : ∀ (ds : List AV) (ρ : Nat → Pl) (h : Nat → Option Blk) (F : Nat) (vs : List Value), InOk B ρ w h F → F2 (DV w) ds vs →
    ∃ ρ', Ext ρ ρ' ∧ F2 (VRepr ρ') (inAs F ds).1 vs ∧ InOk B ρ' w (applyU h (mkU (inAs F ds).2.1)) (inAs F ds).2.2 := by
  intro ds
  induction ds with
  | nil =>
    intro ρ h F vs hi hv
    match vs, hv with
    | [], _ => exact ⟨ρ, Ext.refl ρ, trivial, hi⟩
  | cons x r ih =>
    intro ρ h F vs hi hv
    match vs, hv with
    | v :: vs, ⟨h1, h2⟩ =>
      cases x
      case val g l =>
        obtain ⟨us, hd, hg⟩ := h1
        obtain ⟨ρ1, e1, s1, i1⟩ := in_list l ρ h F us hi hd
        obtain ⟨ρ2, e2, s2, i2⟩ := ih ρ1 _ _ vs i1 h2
        refine ⟨ρ2, e1.trans e2, ⟨⟨us, s1.ext e2, hg⟩, s2⟩, ?_⟩
        simp only [inAs, mkU_append, applyU_append]
        exact i2
      case fn f a c =>
        obtain ⟨rfl, rfl, rfl⟩ := h1
        obtain ⟨ρ2, e2, s2, i2⟩ := ih ρ h F vs hi h2
        exact ⟨ρ2, e2, ⟨⟨[], [], rfl, trivial, trivial⟩, s2⟩, i2⟩
      all_goals exact h1.elim

/-- The state in which a function begins. -/
def entry (n : Nat) (ds : List AV) : St :=
  let a := inAs 0 ds
  ⟨a.1 ++ List.replicate (n - ds.length) (.tup []), a.2.1, a.2.2⟩

/-- The blocks, of which each number stands once. -/
def uniq : List (Nat × Blk) → Bool
  | [] => true
  | p :: r => (r.all fun q => !(q.1 == p.1)) && uniq r
theorem hget_uniq : ∀ (bs : List (Nat × Blk)) (h : Nat → Option Blk), uniq bs = true → (∀ p ∈ bs, h p.1 = none) → ∀ k, applyU h (mkU bs) k = match hget bs k with | some b => some b | none => h k := by
  intro bs
  induction bs with
  | nil => intro h _ _ k; rfl
  | cons p r ih =>
    intro h hu hn k
    simp only [uniq, Bool.and_eq_true, List.all_eq_true] at hu
    have hne : ∀ q ∈ r, q.1 ≠ p.1 := fun q hq => by have := hu.1 q hq; simpa using this
    show applyU (updh h p.1 (some p.2)) (mkU r) k = _
    rw [ih (updh h p.1 (some p.2)) hu.2 (fun q hq => by simp only [updh, hne q hq, if_false]; exact hn q (List.mem_cons_of_mem _ hq)) k]
    simp only [hget]
    by_cases e : p.1 = k
    · subst e
      have : hget r p.1 = none := by
        have gen : ∀ (l : List (Nat × Blk)), (∀ q ∈ l, q.1 ≠ p.1) → hget l p.1 = none := by
          intro l
          induction l with
          | nil => intro _; rfl
          | cons q l ihl => intro hl; simp only [hget, hl q (List.mem_cons_self ..), if_false]; exact ihl (fun x hx => hl x (List.mem_cons_of_mem _ hx))
        exact gen r hne
      simp [this, updh]
    · simp only [e, if_false, updh, Ne.symm e]

theorem innerI_ids : ∀ (ls : List (List Int)) (F : Nat), uniq (innerI F ls).2 = true ∧ ∀ p ∈ (innerI F ls).2, F ≤ p.1 ∧ p.1 < F + ls.length
  | [], F => ⟨rfl, fun p hp => by simp [innerI] at hp⟩
  | l :: r, F => by
    obtain ⟨h1, h2⟩ := innerI_ids r (F + 1)
    refine ⟨?_, fun p hp => ?_⟩
    · simp only [innerI, uniq, Bool.and_eq_true, List.all_eq_true]
      refine ⟨fun q hq => ?_, h1⟩
      have := h2 q hq
      simp
      omega
    · simp only [innerI, List.mem_cons] at hp
      rcases hp with rfl | hp
      · simp
      · have := h2 p hp; simp; omega
theorem inner8_ids : ∀ (ls : List (List (BitVec 8))) (F : Nat), uniq (inner8 F ls).2 = true ∧ ∀ p ∈ (inner8 F ls).2, F ≤ p.1 ∧ p.1 < F + ls.length
  | [], F => ⟨rfl, fun p hp => by simp [inner8] at hp⟩
  | l :: r, F => by
    obtain ⟨h1, h2⟩ := inner8_ids r (F + 1)
    refine ⟨?_, fun p hp => ?_⟩
    · simp only [inner8, uniq, Bool.and_eq_true, List.all_eq_true]
      refine ⟨fun q hq => ?_, h1⟩
      have := h2 q hq
      simp
      omega
    · simp only [inner8, List.mem_cons] at hp
      rcases hp with rfl | hp
      · simp
      · have := h2 p hp; simp; omega

theorem uniq_append : ∀ (a b : List (Nat × Blk)), uniq a = true → uniq b = true → (∀ p ∈ a, ∀ q ∈ b, p.1 ≠ q.1) → uniq (a ++ b) = true
  | [], _, _, hb, _ => hb
  | p :: a, b, ha, hb, hd => by
    simp only [uniq, Bool.and_eq_true, List.all_eq_true] at ha
    simp only [List.cons_append, uniq, Bool.and_eq_true, List.all_eq_true]
    refine ⟨fun q hq => ?_, uniq_append a b ha.2 hb (fun x hx => hd x (List.mem_cons_of_mem _ hx))⟩
    rcases List.mem_append.1 hq with hq | hq
    · exact ha.1 q hq
    · have := hd p (List.mem_cons_self ..) q hq
      simp
      omega

theorem inI_ids (i : IV) (F : Nat) : uniq (inI F i).2.1 = true ∧ F ≤ (inI F i).2.2 ∧ ∀ p ∈ (inI F i).2.1, F ≤ p.1 ∧ p.1 < (inI F i).2.2 := by
  cases i
  case dsI ls =>
    obtain ⟨h1, h2⟩ := innerI_ids ls F
    refine ⟨uniq_append _ _ h1 rfl (fun p hp q hq => ?_), by simp [inI]; omega, fun p hp => ?_⟩
    · have := h2 p hp; simp at hq; subst hq; simp; omega
    · simp only [inI, List.mem_append, List.mem_singleton] at hp ⊢
      rcases hp with hp | rfl
      · have := h2 p hp; omega
      · simp
  case ds8 ls =>
    obtain ⟨h1, h2⟩ := inner8_ids ls F
    refine ⟨uniq_append _ _ h1 rfl (fun p hp q hq => ?_), by simp [inI]; omega, fun p hp => ?_⟩
    · have := h2 p hp; simp at hq; subst hq; simp; omega
    · simp only [inI, List.mem_append, List.mem_singleton] at hp ⊢
      rcases hp with hp | rfl
      · have := h2 p hp; omega
      · simp
  all_goals
    refine ⟨rfl, by simp [inI], fun p hp => ?_⟩
    simp [inI] at hp
    try (subst hp; simp [inI])

theorem inL_ids : ∀ (l : List IV) (F : Nat), uniq (inL F l).2.1 = true ∧ F ≤ (inL F l).2.2 ∧ ∀ p ∈ (inL F l).2.1, F ≤ p.1 ∧ p.1 < (inL F l).2.2
  | [], F => ⟨rfl, Nat.le_refl _, fun p hp => by simp [inL] at hp⟩
  | i :: r, F => by
    obtain ⟨a1, a2, a3⟩ := inI_ids i F
    obtain ⟨b1, b2, b3⟩ := inL_ids r (inI F i).2.2
    refine ⟨uniq_append _ _ a1 b1 (fun p hp q hq => ?_), by simp only [inL]; omega, fun p hp => ?_⟩
    · have := a3 p hp; have := b3 q hq; omega
    · simp only [inL, List.mem_append] at hp ⊢
      rcases hp with hp | hp
      · have := a3 p hp; omega
      · have := b3 p hp; omega

theorem inAs_ids : ∀ (l : List AV) (F : Nat), uniq (inAs F l).2.1 = true ∧ F ≤ (inAs F l).2.2 ∧ ∀ p ∈ (inAs F l).2.1, F ≤ p.1 ∧ p.1 < (inAs F l).2.2 := by
  intro l
  induction l with
  | nil => intro F; exact ⟨rfl, Nat.le_refl _, fun p hp => by simp [inAs] at hp⟩
  | cons x r ih =>
    intro F
    cases x
    case val g l =>
      obtain ⟨a1, a2, a3⟩ := inL_ids l F
      obtain ⟨b1, b2, b3⟩ := ih (inL F l).2.2
      refine ⟨uniq_append _ _ a1 b1 (fun p hp q hq => ?_), by simp only [inAs]; omega, fun p hp => ?_⟩
      · have := a3 p hp; have := b3 q hq; omega
      · simp only [inAs, List.mem_append] at hp ⊢
        rcases hp with hp | hp
        · have := a3 p hp; omega
        · have := b3 p hp; omega
    all_goals exact ih F

theorem entry_rel {w : World} {ds : List AV} {vals : List Value} (n : Nat) (hG : GlobOk w) (hv : F2 (DV w) ds vals) :
    ∃ ρ, Rel w (entry n ds) ρ { tmps := vals.toArray ++ Array.replicate (n - vals.length) undef, defers := [] } w := by
  have h0 : InOk w.heap.size (fun _ => .un) w (fun _ => none) 0 := ⟨⟨fun k b hk => by simp at hk, fun k k' b b' hk => by simp at hk⟩, fun k b hk => by simp at hk, fun k _ => rfl⟩
  obtain ⟨ρ, _, hs, hi⟩ := in_args ds (fun _ => .un) (fun _ => none) 0 vals h0 hv
  have hlen := hv.length
  obtain ⟨u1, _, _⟩ := inAs_ids ds 0
  refine ⟨ρ, rfl, ?_, ?_, ⟨Below.refl _ w, hG⟩, fun k hk hu => absurd (hi.free k hk) hu⟩
  · have : (vals.toArray ++ Array.replicate (n - vals.length) undef).toList = vals ++ List.replicate (n - vals.length) undef := by simp
    rw [this, ← hlen]
    refine hs.append ?_
    generalize n - ds.length = m
    induction m with
    | zero => trivial
    | succ m ih => exact ⟨VRepr_undef ρ, ih⟩
  · have he : hget (inAs 0 ds).2.1 = applyU (fun _ => none) (mkU (inAs 0 ds).2.1) := by
      funext k
      rw [hget_uniq _ _ u1 (fun _ _ => rfl) k]
      cases hget (inAs 0 ds).2.1 k <;> rfl
    show HOk _ ρ w (hget (inAs 0 ds).2.1)
    rw [he]
    exact hi.ok

/-! ### What is handed back -/
def ares (P : Program) (σ : St) : List ResultVar → Option (List (Bool × List IV))
  | [] => some []
  | .tmp t :: r => match σ.slots.getD t (.tup []), ares P σ r with
    | .val g l, some m => some ((g, l) :: m)
    | _, _ => none
  | .cell a t :: r => match aload P t (σ.slots.getD a (.tup [])) (hget σ.heap), ares P σ r with
    | some (.val g l, _), some m => some ((g, l) :: m)
    | _, _ => none
def aresV : List (Bool × List IV) → AV
  | [p] => .val p.1 p.2
  | l => .tup l

def oneRes (tmps : Array Value) (x : ResultVar) : Sem Value :=
  match x with
  | .tmp t => pure (tmps.getD t undef)
  | .cell b t => do loadVar t (← asAddr (tmps.getD b undef))

theorem ares_ok {P : Program} {σ : St} {base : World} {ρ : Nat → Pl} {a : Act} {w : World} (hr : Rel base σ ρ a w) : ∀ (l : List ResultVar) (m : List (Bool × List IV)), ares P σ l = some m →
    ∃ vs : List Value, (l.mapM (oneRes a.tmps)).run P w = Result.ok vs w ∧ F2 (VR1 ρ) m vs := by
  intro l
  induction l with
  | nil => intro m h; simp [ares] at h; subst h; exact ⟨[], rfl, trivial⟩
  | cons x l ih =>
    intro m h
    have fin : ∀ (g : Bool) (its : List IV) (m' : List (Bool × List IV)) (v : Value), m = (g, its) :: m' → ares P σ l = some m' → (oneRes a.tmps x).run P w = Result.ok v w → VR1 ρ (g, its) v →
        ∃ vs : List Value, ((x :: l).mapM (oneRes a.tmps)).run P w = Result.ok vs w ∧ F2 (VR1 ρ) m vs := by
      intro g its m' v hm hm' hv hr1
      obtain ⟨vs, h1, h2⟩ := ih m' hm'
      subst hm
      refine ⟨v :: vs, ?_, ⟨hr1, h2⟩⟩
      simp only [List.mapM_cons, Sem.run_bind, hv, Result.andThen_ok, h1, Sem.run_pure]
    cases x with
    | tmp t =>
      simp only [ares] at h
      split at h
      case h_2 => simp at h
      rename_i g its m' hs hm
      simp at h
      have hv := aeval_ok hr.slots (.tmp t)
      have hs' : aeval (toF σ).slots (.tmp t) = .val g its := hs
      rw [hs'] at hv
      exact fin g its m' (a.tmps.getD t undef) h.symm hm rfl hv
    | cell b t =>
      simp only [ares] at h
      split at h
      case h_2 => simp at h
      rename_i g its upd m' hs hm
      simp at h
      have hv := aeval_ok hr.slots (.tmp b)
      have hsl : aeval (toF σ).slots (.tmp b) = σ.slots.getD b (.tup []) := rfl
      rw [hsl] at hv
      have hp : ∃ k off, (σ.slots.getD b (.tup [])).ptr? = some (k, off) := by
        unfold aload at hs
        split at hs
        · exact ⟨_, _, ‹_›⟩
        · simp at hs
      obtain ⟨k, off, hp⟩ := hp
      obtain ⟨L, hL, hvv⟩ := ptr?_ok hp hv
      obtain ⟨r, hrun, _, hval⟩ := aload_run (P := P) hr.heap (fun _ _ h => h) hv hs
      refine fin g its m' r h.symm hm ?_ hval
      have hb : a.tmps.getD b undef = Value.pointer (some ⟨L.block, L.off + off, none⟩) := hvv
      rw [hvv] at hrun
      show (asAddr (a.tmps.getD b undef) >>= fun x => loadVar t x).run P w = _
      rw [hb]
      simpa [Instr.loadAt, Instr.sureAddr, asAddr, Sem.run_bind] using hrun

end Go.Ev
