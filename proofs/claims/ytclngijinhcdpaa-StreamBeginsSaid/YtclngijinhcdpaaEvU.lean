/- What a closure's code comes to, where it has no loop. Own work; no statement of the seat is proved here. -/
import Derived.Test.YtclngijinhcdpaaEvR
namespace Go.Ev
open Go.RowKit
/-- As T, and all that was known stands where it stood. -/
def TX (P : Program) (c : Code) (σ : St) (Q : Exit → St → Prop) : Prop :=
  ∀ base ρ a w, Rel base σ ρ a w → c.wp P (fun e a' w' => ∃ σ' ρ', Q e σ' ∧ Ext ρ ρ' ∧ Rel base σ' ρ' a' w') a w
section
variable {P : Program} {Q : Exit → St → Prop} {σ : St}
theorem TX.region {Γ : FuncId → Option Ct} (hΓ : GSound P Γ) (hm : P.follows .mixedOrders = true) {id : Nat} {ops : Array Oper} {draw : Bool} {σ' : St} (h : evR P Γ ops draw σ = some σ') (hq : Q .normal σ') : TX P (.region id ops draw) σ Q := by
  intro base ρ a w hr
  unfold evR at h
  split at h
  · simp at h
  rename_i hd
  split at h
  case h_2 => simp at h
  rename_i q hrun
  simp at h
  subst h
  have hF := runL_runF ops.toList 0 σ.slots σ.heap q (fun i => by simp) hrun
  have fin : ∀ (ρ' : Nat → Pl) (a' : Act) (w' : World), Ext ρ ρ' → RelF σ.next base ρ' a' w' ⟨q.1, hget q.2⟩ (fun j => decide (j < ops.size)) → ∃ σ'' ρ'', Q .normal σ'' ∧ Ext ρ ρ'' ∧ Rel base σ'' ρ'' a' w' := by
    intro ρ' a' w' hx hr'
    refine ⟨_, ρ', hq, hx, hr'.defers, hr'.slots, hr'.heap, hr'.below, fun k hk hu => ?_⟩
    have hk' : σ.next ≤ k := by simp at hk; omega
    have := hr'.fresh k hk' hu
    simp at this hk
    omega
  have hlen : ops.toList.length = ops.size := by simp
  rw [hlen] at hF
  cases draw with
  | true =>
    simp only [Bool.true_and, Bool.not_eq_true', Bool.not_eq_false] at hd
    simp only [if_true] at hF
    exact region_draw hΓ (N := σ.next) hm hd hr hF fin
  | false =>
    simp only [Bool.false_eq_true, if_false] at hF
    exact region_seq hΓ fin hr hF
theorem TX.seq {x y : Code} (h : TX P x σ (andThen (fun σ' => TX P y σ' Q) Q)) : TX P (.seq x y) σ Q := by
  intro base ρ a w hr
  refine wp_seq (wp_mono (h base ρ a w hr) ?_)
  rintro e a' w' ⟨σ', ρ', q, hx, r⟩
  cases e with
  | normal => exact wp_mono (q base ρ' a' w' r) fun e a2 w2 ⟨σ2, ρ2, q2, hx2, r2⟩ => ⟨σ2, ρ2, q2, hx.trans hx2, r2⟩
  | _ => exact ⟨σ', ρ', q, hx, r⟩
theorem TX.cond {c : Operand} {x y : Code} {b : Bool} (hb : aeval σ.slots c = sc (.bool b)) (h : TX P (if b then x else y) σ Q) : TX P (.cond c x y) σ Q := by
  intro base ρ a w hr
  have hv := aeval_ok hr.slots c
  have hs : (toF σ).slots = σ.slots := rfl
  rw [hs, hb] at hv
  have := VRepr_sc.1 hv
  simp [ICells, PCells] at this
  exact wp_cond this.symm (h base ρ a w hr)
theorem TX.block {id : Nat} {c : Code} (h : TX P c σ (inBlk id Q)) : TX P (.block id c) σ Q := by
  intro base ρ a w hr
  refine wp_block (wp_mono (h base ρ a w hr) ?_)
  rintro e a' w' ⟨σ', ρ', q, hx, r⟩
  cases e with
  | exit id' =>
    simp only [Exit.inBlock]
    simp only [inBlk] at q
    split
    · rename_i e; rw [if_pos e] at q; exact ⟨σ', ρ', q, hx, r⟩
    · rename_i e; rw [if_neg e] at q; exact ⟨σ', ρ', q, hx, r⟩
  | _ => exact ⟨σ', ρ', q, hx, r⟩
theorem TX.scope {c : Code} (h : TX P c σ (noGo Q)) : TX P (.scope c) σ Q := by
  intro base ρ a w hr
  refine wp_scope_straight (wp_mono (h base ρ a w hr) ?_)
  rintro e a' w' ⟨σ', ρ', q, hx, r⟩
  cases e with
  | goto l => exact q.elim
  | _ => exact ⟨σ', ρ', q, hx, r⟩
end
def flat : Code → Bool
  | .skip => true
  | .region .. => true
  | .seq x y => flat x && flat y
  | .cond _ x y => flat x && flat y
  | .block _ c => flat c
  | .scope c => flat c
  | .exit _ => true
  | .label _ => true
  | .ret => true
  | _ => false
section
variable {P : Program} {Γ : FuncId → Option CtS} {orc : Nat → Orc} {fuel : Nat}
theorem TX.runS (hΓ : GSound P (upG Γ)) (hm : P.follows .mixedOrders = true) (ho : ∀ i, (orc i).inl = none) : ∀ (c : Code) {σ σ' : St} {e : Ex} {cs : List Prop} {Q : Exit → St → Prop}, flat c = true → evS P Γ orc [] fuel c σ = some (e, σ', cs) → AllP cs → Q e.up σ' → TX P c σ Q := by
  intro c
  induction c with
  | skip => intro σ σ' e cs Q _ h _ hq; simp [evS] at h; obtain ⟨rfl, rfl, rfl⟩ := h; exact fun _ ρ _ _ hr => wp_skip ⟨σ, ρ, hq, Ext.refl ρ, hr⟩
  | region id ops draw =>
    intro σ σ' e cs Q _ h hc hq
    simp only [evS, ho] at h
    cases hr : evRS P Γ (orc id) ops draw σ with
    | none => simp [hr] at h
    | some t => simp [hr] at h; obtain ⟨rfl, rfl, rfl⟩ := h; exact TX.region hΓ hm (evRS_ok hr hc) hq
  | seq x y ihx ihy =>
    intro σ σ' e cs Q hf h hc hq
    simp only [flat, Bool.and_eq_true] at hf
    simp only [evS] at h
    refine TX.seq ?_
    cases hx : evS P Γ orc [] fuel x σ with
    | none => simp [hx] at h
    | some r =>
      obtain ⟨e1, s1, c1⟩ := r
      rw [hx] at h
      cases e1 with
      | normal =>
        simp only at h
        cases hy : evS P Γ orc [] fuel y s1 with
        | none => simp [hy] at h
        | some r =>
          obtain ⟨e2, s2, c2⟩ := r
          rw [hy] at h
          simp at h
          obtain ⟨rfl, rfl, rfl⟩ := h
          obtain ⟨q1, q2⟩ := AllP_append hc
          exact ihx hf.1 hx q1 (show TX P y s1 Q from ihy hf.2 hy q2 hq)
      | exit id => simp at h; obtain ⟨rfl, rfl, rfl⟩ := h; exact ihx hf.1 hx hc hq
      | ret => simp at h; obtain ⟨rfl, rfl, rfl⟩ := h; exact ihx hf.1 hx hc hq
  | cond c x y ihx ihy =>
    intro σ σ' e cs Q hf h hc hq
    simp only [flat, Bool.and_eq_true] at hf
    simp only [evS] at h
    split at h
    · rename_i hb; exact TX.cond (b := true) hb (ihx hf.1 h hc hq)
    · rename_i hb; exact TX.cond (b := false) hb (ihy hf.2 h hc hq)
    · simp at h
  | block id c ih =>
    intro σ σ' e cs Q hf h hc hq
    simp only [evS] at h
    refine TX.block ?_
    cases hx : evS P Γ orc [] fuel c σ with
    | none => simp [hx] at h
    | some r =>
      obtain ⟨e1, s1, c1⟩ := r
      rw [hx] at h
      cases e1 with
      | normal => simp at h; obtain ⟨rfl, rfl, rfl⟩ := h; exact ih hf hx hc hq
      | exit id' =>
        simp only at h
        split at h
        · rename_i he
          simp at h
          obtain ⟨rfl, rfl, rfl⟩ := h
          refine ih hf hx hc ?_
          show (if id' = id then Q .normal s1 else Q (.exit id') s1)
          rw [if_pos he]; exact hq
        · rename_i he
          simp at h
          obtain ⟨rfl, rfl, rfl⟩ := h
          refine ih hf hx hc ?_
          show (if id' = id then Q .normal s1 else Q (.exit id') s1)
          rw [if_neg he]; exact hq
      | ret => simp at h; obtain ⟨rfl, rfl, rfl⟩ := h; exact ih hf hx hc hq
  | scope c ih =>
    intro σ σ' e cs Q hf h hc hq
    simp only [evS] at h
    refine TX.scope (ih hf h hc ?_)
    cases e <;> exact hq
  | exit id => intro σ σ' e cs Q _ h _ hq; simp [evS] at h; obtain ⟨rfl, rfl, rfl⟩ := h; exact fun _ ρ _ _ hr => wp_exit ⟨σ, ρ, hq, Ext.refl ρ, hr⟩
  | label l => intro σ σ' e cs Q _ h _ hq; simp [evS] at h; obtain ⟨rfl, rfl, rfl⟩ := h; exact fun _ ρ _ _ hr => wp_label ⟨σ, ρ, hq, Ext.refl ρ, hr⟩
  | ret => intro σ σ' e cs Q _ h _ hq; simp [evS] at h; obtain ⟨rfl, rfl, rfl⟩ := h; exact fun _ ρ _ _ hr => wp_ret ⟨σ, ρ, hq, Ext.refl ρ, hr⟩
  | loop c ih => intro σ σ' e cs Q hf; simp [flat] at hf
  | goto l => intro σ σ' e cs Q hf; simp [flat] at hf
  | rangeFunc f p a b => intro σ σ' e cs Q hf; simp [flat] at hf
  | refuse w => intro σ σ' e cs Q hf; simp [flat] at hf
/-- A closure's answer, from the caller's memory. -/
def cloS (P : Program) (Γ : FuncId → Option CtS) (orc : Nat → Orc) (fuel : Nat) (g : FuncId) (args : List AV) (heap : Heap) (next : Nat) : Option (AV × Heap × Nat × List Prop) :=
  match P.funcs[g]? with
  | none => none
  | some fn => match fn.body with
    | none => none
    | some c =>
      if flat c && callable P g then
        match evS P Γ orc [] fuel c ⟨args ++ List.replicate (fn.ntmps - args.length) (.tup []), heap, next⟩ with
        | some (.exit _, _, _) => none
        | some (_, σ, cs) => (ares P σ fn.results.toList).map fun m => (aresV m, σ.heap, σ.next, cs)
        | none => none
      else none
theorem CloTo_of_cloS (hΓ : GSound P (upG Γ)) (hm : P.follows .mixedOrders = true) (ho : ∀ i, (orc i).inl = none) {g : FuncId} {args : List AV} {heap heap' : Heap} {next next' : Nat} {r : AV} {cs : List Prop}
    (h : cloS P Γ orc fuel g args heap next = some (r, heap', next', cs)) (hc : AllP cs) : CloTo P g args heap next r heap' next' := by
  unfold cloS at h
  split at h
  · simp at h
  rename_i fn hfn
  split at h
  · simp at h
  rename_i c hb
  split at h
  case isFalse => simp at h
  rename_i hfl
  simp only [Bool.and_eq_true] at hfl
  refine ⟨hfl.2, fun base ρ w vals hv hh hbl hfree => ?_⟩
  have key : ∀ (e : Ex) (σ : St) (cs1 : List Prop), evS P Γ orc [] fuel c ⟨args ++ List.replicate (fn.ntmps - args.length) (.tup []), heap, next⟩ = some (e, σ, cs1) → (e = .normal ∨ e = .ret) → (ares P σ fn.results.toList).map (fun m => (aresV m, σ.heap, σ.next, cs1)) = some (r, heap', next', cs) →
      Calls P g vals.toArray w fun e w' => ∃ v ρ', e = .returned v ∧ Ext ρ ρ' ∧ VRepr ρ' r v ∧ HOk base.heap.size ρ' w' (hget heap') ∧ Below base.heap.size base w' ∧ ∀ k, next' ≤ k → ρ' k = .un := by
    intro e σ cs1 hev he hres
    cases hm' : ares P σ fn.results.toList with
    | none => simp [hm'] at hres
    | some m =>
      simp only [hm', Option.map_some, Option.some.injEq, Prod.mk.injEq] at hres
      obtain ⟨rfl, rfl, rfl, rfl⟩ := hres
      refine calls_of_wp hfn hb ?_
      have hrel : Rel base ⟨args ++ List.replicate (fn.ntmps - args.length) (.tup []), heap, next⟩ ρ { tmps := vals.toArray ++ Array.replicate (fn.ntmps - vals.toArray.size) undef, defers := [] } w := by
        refine ⟨rfl, ?_, hh, hbl, fun k hk hu => absurd (hfree k hk) hu⟩
        have hlen := hv.length
        have : (vals.toArray ++ Array.replicate (fn.ntmps - vals.toArray.size) undef).toList = vals ++ List.replicate (fn.ntmps - vals.length) undef := by simp
        rw [this, ← hlen]
        refine hv.append ?_
        generalize fn.ntmps - args.length = q
        induction q with
        | zero => trivial
        | succ q ih => exact ⟨VRepr_undef ρ, ih⟩
      refine wp_mono (TX.runS hΓ hm ho c (Q := fun e' σ' => (e' = .normal ∨ e' = .ret) ∧ σ' = σ) hfl.1 hev hc ⟨by rcases he with rfl | rfl <;> simp [Ex.up], rfl⟩ base ρ _ w hrel) ?_
      rintro e' a' w' ⟨σ', ρ', ⟨he', rfl⟩, hx, hr'⟩
      obtain ⟨vs, h1, h2⟩ := ares_ok hr' _ _ hm'
      have hv' : VRepr ρ' (aresV m) (if h : vs.length = 1 then vs[0] else .tuple vs.toArray) := by
        have hl := h2.length
        match m, vs, h2 with
        | [], [], _ => exact ⟨[], rfl, trivial⟩
        | [p], [v], h2 => exact h2.1
        | p :: p2 :: m, v :: v2 :: vs, h2 => exact ⟨v :: v2 :: vs, by simp, h2⟩
      have hfr : ∀ k, σ'.next ≤ k → ρ' k = .un := fun k hk => by
        by_cases hu : ρ' k = .un
        · exact hu
        · have := hr'.fresh k hk hu
          simp at this
      rcases he' with rfl | rfl
      · exact ⟨hr'.defers, _, results_run h1, _, ρ', rfl, hx, hv', hr'.heap, hr'.below, hfr⟩
      · exact ⟨hr'.defers, _, results_run h1, _, ρ', rfl, hx, hv', hr'.heap, hr'.below, hfr⟩
  split at h
  · simp at h
  · rename_i e σ cs1 hne hev
    cases e with
    | exit id => exact absurd rfl (hne id)
    | normal => exact key .normal σ cs1 hev (.inl rfl) h
    | ret => exact key .ret σ cs1 hev (.inr rfl) h
  · simp at h
end
end Go.Ev
