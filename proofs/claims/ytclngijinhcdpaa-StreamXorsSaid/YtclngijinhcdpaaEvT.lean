/- Calls of closures in a region of the text's order: what the closure's code comes to is a condition. Own work; no statement of the seat is proved here. -/
import Derived.Test.YtclngijinhcdpaaEvP
namespace Go.Ev
open Go.RowKit

section
variable {P : Program} {Γ : FuncId → Option Ct} {ops : Array Oper}
/-- Operations n to n + m of a region in the order of the text. -/
theorem ops_from (hΓ : GSound P Γ) {N : Nat} {base : World} {mask : Nat → Nat} {Q : Exit → Act → World → Prop} {s' : FSt} {ρ : Nat → Pl} {tail : List Nat} {e : Nat}
    (hQ : ∀ ρ' a w, Ext ρ ρ' → RelF N base ρ' a w s' (fun j => decide (j < e)) → wpOps P ops Q tail a w) :
    ∀ (m k : Nat) (ρ1 : Nat → Pl) (a : Act) (w : World) (s : FSt), Ext ρ ρ1 → k + m = e → RelF N base ρ1 a w s (fun j => decide (j < k)) → runF P Γ N mask ops m k s = some s' → wpOps P ops Q (List.range' k m ++ tail) a w := by
  intro m
  induction m with
  | zero =>
    intro k ρ1 a w s hx hk hr hs
    simp [runF] at hs
    subst hs
    have : k = e := by omega
    subst this
    exact hQ ρ1 a w hx hr
  | succ m ih =>
    intro k ρ1 a w s hx hk hr hs
    simp only [runF] at hs
    split at hs
    case h_2 => simp at hs
    rename_i s1 hs1
    rw [List.range'_succ, List.cons_append, wpOps_cons]
    refine astep_sound hΓ hr (by simp) hs1 fun ρ' a' w' hx' hr' => ?_
    refine ih (k + 1) ρ' a' w' s1 (hx.trans hx') (by omega) ⟨hr'.defers, hr'.slots, hr'.heap, hr'.below, fun j hj hu => ?_⟩ hs
    have := hr'.fresh j hj hu
    simp at this ⊢
    omega
end

/-- What a closure's call comes to: from a state of the caller's memory to one in which all that was known stands where it stood. -/
structure CloTo (P : Program) (g : FuncId) (args : List AV) (heap : Heap) (next : Nat) (r : AV) (heap' : Heap) (next' : Nat) : Prop where
  can : callable P g = true
  calls : ∀ (base : World) (ρ : Nat → Pl) (w : World) (vals : List Value), F2 (VRepr ρ) args vals → HOk base.heap.size ρ w (hget heap) → Below base.heap.size base w → (∀ k, next ≤ k → ρ k = .un) →
    Calls P g vals.toArray w fun e w' => ∃ v ρ', e = .returned v ∧ Ext ρ ρ' ∧ VRepr ρ' r v ∧ HOk base.heap.size ρ' w' (hget heap') ∧ Below base.heap.size base w' ∧ ∀ k, next' ≤ k → ρ' k = .un

def ptrsA (l : List (Nat × Nat)) : List AV := l.map fun p => sc (.ptr p.1 p.2)
def inlCall (o : Oper) (slots : List AV) : Option (FuncId × List AV × Option Tmp) :=
  match o.guard, o.op with
  | none, .call c =>
    match c.callee with
    | .value f =>
      match aeval slots f with
      | .fn g first cap => some (g, first.map (fun p => .val p.1 p.2) ++ c.args.toList.map (aeval slots) ++ ptrsA cap, o.dst)
      | _ => none
    | _ => none
  | _, _ => none

theorem ptrsA_ok {ρ : Nat → Pl} : ∀ {l : List (Nat × Nat)} {cs : List Value}, F2 (fun p c => ICells ρ (.ptr p.1 p.2) [c]) l cs → F2 (VRepr ρ) (ptrsA l) cs
  | [], [], _ => trivial
  | _ :: _, _ :: _, ⟨h, h'⟩ => ⟨VRepr_sc.2 h, ptrsA_ok h'⟩

theorem runL_runF' {P : Program} {Γ : FuncId → Option Ct} {N : Nat} {mask : Nat → Nat} {ops : Array Oper} : ∀ (l : List Oper) (k : Nat) (slots : List AV) (heap : Heap) (q : List AV × Heap),
    (∀ i, i < l.length → l[i]? = ops[k + i]?) → runL P Γ N mask ops l k slots heap = some q → runF P Γ N mask ops l.length k ⟨slots, hget heap⟩ = some ⟨q.1, hget q.2⟩ := by
  intro l
  induction l with
  | nil => intro k slots heap q _ h; simp [runL] at h; subst h; rfl
  | cons o r ih =>
    intro k slots heap q hl h
    simp only [runL] at h
    split at h
    case h_2 => simp at h
    rename_i q1 hq1
    simp only [List.length_cons, runF]
    rw [stepL_astep (by have := hl 0 (by simp); simpa using this.symm) hq1]
    exact ih (k + 1) q1.1 q1.2 q (fun i hi => by have := hl (i + 1) (by simpa using hi); simpa [Nat.add_assoc, Nat.add_comm 1 i] using this) h

section
variable {P : Program} {Q : Exit → St → Prop} {σ : St}
theorem T.regionInl {Γ : FuncId → Option Ct} (hΓ : GSound P Γ) {id : Nat} {ops : Array Oper} {q p : List AV × Heap} {o : Oper} {g : FuncId} {args : List AV} {dst : Option Tmp} {m : Inl}
    (h : runL P Γ σ.next seqMask ops (ops.toList.take m.pos) 0 σ.slots σ.heap = some q) (ho : ops[m.pos]? = some o) (hl : inlCall o q.1 = some (g, args, dst))
    (hC : CloTo P g args q.2 (σ.next + 16 * ops.size) m.res m.heap m.next) (h2 : runL P Γ m.next seqMask ops (ops.toList.drop (m.pos + 1)) (m.pos + 1) (putS q.1 dst m.res) m.heap = some p)
    (hq : Q .normal ⟨p.1, p.2, m.next + 16 * ops.size⟩) : T P (.region id ops false) σ Q := by
  intro base ρ a w hr
  unfold inlCall at hl
  split at hl
  case h_2 => simp at hl
  rename_i c hg hop
  split at hl
  case h_2 => simp at hl
  rename_i f hc
  split at hl
  case h_2 => simp at hl
  rename_i g' first cap hf
  simp only [Option.some.injEq, Prod.mk.injEq] at hl
  obtain ⟨rfl, rfl, rfl⟩ := hl
  obtain ⟨hcal, hC⟩ := hC
  have hlt : m.pos < ops.size := by
    rcases Nat.lt_or_ge m.pos ops.size with h' | h'
    · exact h'
    · simp [Array.getElem?_eq_none h'] at ho
  obtain ⟨n, hn⟩ : ∃ n, n = m.pos := ⟨_, rfl⟩
  rw [← hn] at ho h h2 hlt
  have hdl : (ops.toList.take n).length = n := by simp; omega
  have hF := runL_runF' (ops.toList.take n) 0 σ.slots σ.heap q (fun i hi => by
    rw [hdl] at hi
    rw [Nat.zero_add, List.getElem?_take_of_lt hi]
    simp) h
  rw [hdl] at hF
  have hdl2 : (ops.toList.drop (n + 1)).length = ops.size - (n + 1) := by simp
  have hF2 := runL_runF' (ops.toList.drop (n + 1)) (n + 1) (putS q.1 o.dst m.res) m.heap p (fun i hi => by simp) h2
  rw [hdl2] at hF2
  refine wp_region ?_
  have hrange : List.range ops.size = List.range' 0 n ++ (n :: (List.range' (n + 1) (ops.size - (n + 1)) ++ [])) := by
    rw [List.range_eq_range', List.append_nil, ← List.range'_succ, show ops.size - (n + 1) + 1 = ops.size - n by omega]
    have := List.range'_append (s := 0) (m := n) (n := ops.size - n) (step := 1)
    simp only [Nat.zero_add, Nat.one_mul] at this
    rw [this]
    congr 1
    omega
  rw [hrange]
  refine ops_from hΓ (e := n) (ρ := ρ) (fun ρ' a' w' hx hr' => ?_) n 0 ρ a w _ (Ext.refl ρ) (by omega) ⟨hr.defers, hr.slots, hr.heap, hr.below, fun j hj hu => by have := hr.fresh j hj hu; simp at this⟩ hF
  rw [wpOps_cons]
  unfold wpOp
  simp only [ho]
  have hw : Region.wanted o (yielded ops a'.tmps) = true := by simp [Region.wanted, hg]
  rw [hw]
  simp only [if_true]
  left
  have hfv := aeval_ok hr'.slots f
  have hfe : aeval q.1 f = .fn g' first cap := hf
  rw [show (⟨q.1, hget q.2⟩ : FSt).slots = q.1 from rfl, hfe] at hfv
  obtain ⟨fs, cs, h1, h3, h4⟩ := hfv
  have hargs : F2 (VRepr ρ') (first.map (fun p => AV.val p.1 p.2) ++ c.args.toList.map (aeval q.1) ++ ptrsA cap) (fs ++ c.args.toList.map a'.eval ++ cs) :=
    F2.append (F2.append (F2_vals h3) (F2_mapv (aeval_ok hr'.slots) c.args.toList)) (ptrsA_ok h4)
  have hun : ∀ k, σ.next + 16 * ops.size ≤ k → ρ' k = .un := fun k hk => by
    by_cases hu : ρ' k = .un
    · exact hu
    · have := hr'.fresh k (by omega) hu
      simp at this
      omega
  have hcalls := hC base ρ' w' _ hargs hr'.heap hr'.below hun
  unfold Oper.wp
  have hexec : (execOp a'.eval o).run P w' = .ok (.enter g' (fs ++ c.args.toList.map a'.eval ++ cs).toArray) w' := by
    simp only [execOp, hop, hc, resolve, h1, Deferred.ofValue, Sem.run_bind, Sem.run_pure, Result.andThen_ok, invoke]
    have : (fs.toArray ++ Array.map a'.eval c.args ++ cs.toArray) = (fs ++ c.args.toList.map a'.eval ++ cs).toArray := by simp
    rw [this, run_callFunc hcal]
  rw [hexec]
  show Calls P g' _ w' _
  refine hcalls.mono ?_
  rintro e w'' ⟨v, ρ'', rfl, hx2, hv, hh, hb, hfr⟩
  have hrel : RelF m.next base ρ'' (a'.put o.dst v) w'' ⟨putS q.1 o.dst m.res, hget m.heap⟩ (fun j => decide (j < n + 1)) := by
    refine ⟨?_, putS_ok (F2.imp (fun _ _ => VRepr.ext hx2) hr'.slots) o.dst hv, hh, hb, fun k hk hu => absurd (hfr k hk) hu⟩
    have := hr'.defers
    cases o.dst <;> exact this
  refine ops_from hΓ (e := ops.size) (ρ := ρ'') (fun ρ3 a3 w3 _ hr3 => ?_) (ops.size - (n + 1)) (n + 1) ρ'' _ w'' _ (Ext.refl ρ'') (by omega) hrel hF2
  refine ⟨_, ρ3, hq, hr3.defers, hr3.slots, hr3.heap, hr3.below, fun k hk hu => ?_⟩
  have hk' : m.next ≤ k := by simp at hk; omega
  have := hr3.fresh k hk' hu
  simp at this hk
  omega
end
end Go.Ev
