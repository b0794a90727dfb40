/- Regions: in the order of the text, or in whatever order the edges allow. Own work; no statement of the seat is proved here. -/
import Derived.Test.YtmdfhomeokfgiaaEvH
import Derived.Still
namespace Go.Ev
open Go.RowKit

def aeval (slots : List AV) : Operand → AV
  | .tmp t => slots.getD t (.tup [])
  | .const v => (avOf v).getD .any
  | .global _ => .any
  | .func f => .fn f [] []

theorem aeval_ok {ρ : Nat → Pl} {slots : List AV} {a : Act} (h : F2 (VRepr ρ) slots a.tmps.toList) (x : Operand) : VRepr ρ (aeval slots x) (a.eval x) := by
  cases x with
  | tmp t =>
    simp only [aeval, Act.eval, List.getD]
    cases hs : slots[t]? with
    | none =>
      have h1 : a.tmps.toList[t]? = none := by
        rw [List.getElem?_eq_none_iff] at hs ⊢
        rw [← h.length]; exact hs
      have h2 : a.tmps[t]? = none := by simpa using h1
      simp only [Option.getD_none, Array.getD_eq_getD_getElem?, h2]
      exact VRepr_undef ρ
    | some x =>
      obtain ⟨v, h1, h2⟩ := h.get hs
      have h3 : a.tmps[t]? = some v := by simpa using h1
      simp only [Option.getD_some, Array.getD_eq_getD_getElem?, h3]
      exact h2
  | const v =>
    simp only [aeval, Act.eval]
    cases hv : avOf v with
    | none => trivial
    | some x => exact avOf_ok hv
  | global g => trivial
  | func f => exact ⟨[], [], rfl, trivial, trivial⟩

def putS (slots : List AV) (dst : Option Tmp) (x : AV) : List AV :=
  match dst with
  | some d => slots.set d x
  | none => slots

theorem putS_ok {ρ : Nat → Pl} {slots : List AV} {a : Act} (h : F2 (VRepr ρ) slots a.tmps.toList) (dst : Option Tmp) {x : AV} {v : Value} (hx : VRepr ρ x v) : F2 (VRepr ρ) (putS slots dst x) (a.put dst v).tmps.toList := by
  cases dst with
  | none => exact h
  | some d =>
    simp only [putS, Act.put, Array.toList_setIfInBounds]
    exact h.set d hx

def wantedA (ops : Array Oper) (slots : List AV) (o : Oper) : Option Bool :=
  match o.guard with
  | none => some true
  | some (j, want) =>
    match (ops[j]?).bind (·.dst) with
    | none => some false
    | some t =>
      match slots.getD t (.tup []) with
      | .val false [.bool b] => some (b == want)
      | .tup [] => some false
      | _ => none

theorem wantedA_ok {ρ : Nat → Pl} {slots : List AV} {a : Act} {ops : Array Oper} {o : Oper} {b : Bool} (h : F2 (VRepr ρ) slots a.tmps.toList) (hw : wantedA ops slots o = some b) : Region.wanted o (yielded ops a.tmps) = b := by
  unfold wantedA at hw
  unfold Region.wanted
  split at hw
  · rename_i hg; simp at hw; rw [hg, hw]
  · rename_i j want hg
    rw [hg]
    simp only
    split at hw
    · rename_i ht
      simp at hw
      subst hw
      simp [yielded, ht]
    · rename_i t ht
      have hev := aeval_ok h (.tmp t)
      simp only [aeval, Act.eval] at hev
      split at hw
      · rename_i c hs
        simp at hw
        rw [hs] at hev
        have hv := VRepr_sc.1 hev
        simp [ICells, PCells] at hv
        have hv2 : a.tmps[t]? = some (.bool c) := by
          cases hq : a.tmps[t]? with
          | none => simp [hq, undef] at hv
          | some z => simp [hq] at hv; rw [← hv]
        simp only [yielded, ht, Option.bind_some, hv2]
        rw [← hw]
        cases c <;> cases want <;> rfl
      · rename_i hs
        simp at hw
        subst hw
        rw [hs] at hev
        obtain ⟨vs, hv, hF⟩ := hev
        have : vs = [] := by match vs, hF with | [], _ => rfl
        subst this
        have hv2 : ∀ c, a.tmps[t]? ≠ some (.bool c) := by
          intro c hq
          simp [hq] at hv
        simp only [yielded, ht, Option.bind_some]
        cases hq : a.tmps[t]? with
        | none => simp
        | some z => cases z <;> first | simp | exact absurd hq (hv2 _)
      · simp at hw

/-! ### One step -/
structure FSt where
  slots : List AV
  h : Nat → Option Blk

def readsOp : Op → Bool
  | .load .. | .store .. | .slice .. | .convert .. | .call _ => true
  | _ => false
def writesOp : Op → Bool
  | .store .. => true
  | .call c => match c.callee with
    | .builtin .append | .builtin .copy => true
    | _ => false
  | _ => false
theorem reads_of_writes {op : Op} (h : writesOp op = true) : readsOp op = true := by
  cases op <;> first | rfl | (simp [writesOp] at h)

/-- May operation i look at block k: one that was there before the region, its own, or one of an operation that comes before it? -/
def okId (N m i k : Nat) : Bool := decide (k < N) || (decide ((k - N) / 16 = i) || m.testBit ((k - N) / 16))
def ownId (N i k : Nat) : Bool := decide (N + 16 * i ≤ k) && decide (k < N + 16 * i + 16)

section
variable (P : Program) (Γ : FuncId → Option Ct) (N : Nat) (mask : Nat → Nat) (ops : Array Oper)

def astep (i : Nat) (s : FSt) : Option FSt :=
  match ops[i]? with
  | none => none
  | some o =>
    match wantedA ops s.slots o with
    | none => none
    | some false => some ⟨putS s.slots o.dst (.tup []), s.h⟩
    | some true =>
      match acore P Γ o (aeval s.slots) (if readsOp o.op then fun k => if okId N (mask i) i k then s.h k else none else fun _ => none) (N + 16 * i) with
      | none => none
      | some (v, upd) => if upd.all (fun u => (writesOp o.op && okId N (mask i) i u.1) || ownId N i u.1) then some ⟨putS s.slots o.dst v, applyU s.h upd⟩ else none

structure RelF (base : World) (ρ : Nat → Pl) (a : Act) (w : World) (s : FSt) (listed : Nat → Bool) : Prop where
  defers : a.defers = []
  slots : F2 (VRepr ρ) s.slots a.tmps.toList
  heap : HOk base.heap.size ρ w s.h
  below : Below base.heap.size base w
  fresh : ∀ k, N ≤ k → ρ k ≠ .un → listed ((k - N) / 16) = true
end

section
variable {P : Program} {Γ : FuncId → Option Ct} {N : Nat} {mask : Nat → Nat} {ops : Array Oper}

theorem applyU_ids : ∀ (upd : Upd) (h : Nat → Option Blk) (k : Nat), (∀ u ∈ upd, u.1 ≠ k) → applyU h upd k = h k
  | [], _, _, _ => rfl
  | u :: r, h, k, hn => by
    simp only [applyU]
    rw [applyU_ids r _ k (fun v hv => hn v (List.mem_cons_of_mem _ hv))]
    have := hn u (List.mem_cons_self ..)
    simp [updh, Ne.symm this]

theorem astep_sound (hΓ : GSound P Γ) {base : World} {ρ : Nat → Pl} {a : Act} {w : World} {s s' : FSt} {listed : Nat → Bool} {i : Nat} {K : Act → World → Prop} {Q : Exit → Act → World → Prop}
    (hr : RelF N base ρ a w s listed) (hi : listed i = false) (hs : astep P Γ N mask ops i s = some s')
    (hK : ∀ ρ' a' w', RelF N base ρ' a' w' s' (fun j => j == i || listed j) → K a' w') : wpOp P ops Q i K a w := by
  unfold astep at hs
  unfold wpOp
  split at hs
  · simp at hs
  rename_i o ho
  simp only [ho]
  split at hs
  · simp at hs
  · rename_i hw
    simp at hs
    subst hs
    rw [wantedA_ok hr.slots hw]
    simp only [Bool.false_eq_true, if_false]
    refine hK ρ _ w ⟨?_, putS_ok hr.slots o.dst (VRepr_undef ρ), hr.heap, hr.below, fun k hk hu => ?_⟩
    · cases o.dst <;> exact hr.defers
    · simp [hr.fresh k hk hu]
  · rename_i hw
    split at hs
    · simp at hs
    rename_i v upd hc
    split at hs
    case isFalse => simp at hs
    simp at hs
    subst hs
    rw [wantedA_ok hr.slots hw]
    simp only [if_true]
    left
    have hun : ∀ k, N + 16 * i ≤ k → k < N + 16 * i + 16 → ρ k = .un := by
      intro k h1 h2
      by_cases hρ : ρ k = .un
      · exact hρ
      · have h3 := hr.fresh k (by omega) hρ
        have e : (k - N) / 16 = i := by omega
        rw [e, hi] at h3
        simp at h3
    refine acore_sound hΓ hr.heap (fun k b hk => ?_) (aeval_ok hr.slots) hun hr.below.size hc ?_
    · split at hk
      · simp only at hk
        split at hk
        · exact hk
        · simp at hk
      · simp at hk
    · rintro u w' ⟨ρ', h1, h2, h3, h4, h5⟩
      refine hK ρ' _ w' ⟨?_, putS_ok (F2.imp (fun _ _ => VRepr.ext h1) hr.slots) o.dst h3, h4, hr.below.trans h5, fun k hk hu => ?_⟩
      · cases o.dst <;> exact hr.defers
      · by_cases hq : ρ k = .un
        · have := h2 k hq hu
          have e : (k - N) / 16 = i := by omega
          simp [e]
        · simp [hr.fresh k hk hq]
end

/-! ### Two operations that do not hang on one another -/
theorem mem_map_congr {α β : Type} {f g : α → β} {l : List α} (h : ∀ x ∈ l, f x = g x) : l.map f = l.map g := List.map_congr_left h

theorem acore_congr (P : Program) (Γ : FuncId → Option Ct) (o : Oper) {ev ev' : Operand → AV} (get : Nat → Option Blk) (F : Nat) (h : ∀ x ∈ o.op.operands, ev x = ev' x) :
    acore P Γ o ev get F = acore P Γ o ev' get F := by
  obtain ⟨dst, op, type, pos, after, guard⟩ := o
  have pairs : ∀ ps : List (Nat × Operand), (∀ x ∈ ps.map (·.2), ev x = ev' x) → (ps.map fun p => (p.1, ev p.2)) = ps.map fun p => (p.1, ev' p.2) := by
    intro ps hp
    refine List.map_congr_left fun p hm => ?_
    rw [hp p.2 (List.mem_map.2 ⟨p, hm, rfl⟩)]
  cases op <;> simp only [Op.operands] at h <;> simp only [acore]
  case build t ps => rw [pairs ps.toList fun x hx => h x (by simpa using hx)]
  case buildSlice t n ps => rw [pairs ps.toList fun x hx => h x (by simpa using hx)]
  case makeFunc fn first captured =>
    cases fn <;> try rfl
    simp only
    rw [List.map_congr_left (l := first.toList) fun x hx => h x (by simp [Array.mem_toList_iff.1 hx]), List.map_congr_left (l := captured.toList) fun x hx => h x (by simp [Array.mem_toList_iff.1 hx])]
  case call c =>
    have hargs : c.args.toList.map ev = c.args.toList.map ev' := List.map_congr_left fun x hx => h x (by simp [Call.operands, Array.mem_toList_iff.1 hx])
    cases hc : c.callee with
    | value f => have hf : ev f = ev' f := h f (by simp [Call.operands, hc]); simp only [hf, hargs]
    | invoke r m => rfl
    | builtin b => simp only [hargs]
  case slice t x lo hi mx => cases lo <;> cases hi <;> cases mx <;> simp_all
  all_goals (first | rfl | (simp_all; done))

theorem aeval_put {slots : List AV} {dst : Option Tmp} {v : AV} {x : Operand} (h : ∀ d, dst = some d → x ≠ .tmp d) : aeval (putS slots dst v) x = aeval slots x := by
  cases dst with
  | none => rfl
  | some d =>
    cases x with
    | tmp t =>
      have hne : d ≠ t := fun e => h d rfl (e ▸ rfl)
      simp [aeval, putS, List.getElem?_set_ne hne]
    | _ => rfl

theorem acore_put (P : Program) (Γ : FuncId → Option Ct) {ops : Array Oper} (o : Oper) (slots : List AV) (dst : Option Tmp) (v : AV) (get : Nat → Option Blk) (F : Nat) (h : ∀ d, dst = some d → d ∉ o.looksAt ops) :
    acore P Γ o (aeval (putS slots dst v)) get F = acore P Γ o (aeval slots) get F :=
  acore_congr P Γ o get F fun x hx => aeval_put fun d hd hxd => h d hd (by
    subst hxd
    exact List.mem_append_left _ (List.mem_filterMap.2 ⟨.tmp d, by simpa using hx, rfl⟩))

theorem wantedA_put {ops : Array Oper} (o : Oper) (slots : List AV) (dst : Option Tmp) (v : AV) (h : ∀ d, dst = some d → d ∉ o.looksAt ops) : wantedA ops (putS slots dst v) o = wantedA ops slots o := by
  cases dst with
  | none => rfl
  | some d =>
    unfold wantedA
    cases hg : o.guard with
    | none => rfl
    | some gw =>
      obtain ⟨g, want⟩ := gw
      simp only
      cases ht : (ops[g]?).bind (·.dst) with
      | none => rfl
      | some t =>
        have hne : d ≠ t := fun e => h d rfl (by subst e; simp [Oper.looksAt, hg, ht])
        simp [putS, List.getElem?_set_ne hne]

theorem putS_comm (slots : List AV) {x y : Option Tmp} (v u : AV) (h : ∀ d, x = some d → y ≠ some d) : putS (putS slots x v) y u = putS (putS slots y u) x v := by
  cases x with
  | none => rfl
  | some d =>
    cases y with
    | none => rfl
    | some e =>
      have hne : d ≠ e := fun he => h d rfl (he ▸ rfl)
      simp only [putS]
      rw [List.set_comm _ _ hne]

theorem updh_comm (h : Nat → Option Blk) {k j : Nat} (b c : Option Blk) (hne : k ≠ j) : updh (updh h k b) j c = updh (updh h j c) k b := by
  funext i
  simp only [updh]
  by_cases h1 : i = j <;> by_cases h2 : i = k
  · omega
  · simp [h1, Ne.symm hne]
  · simp [h2, hne]
  · simp [h1, h2]

theorem applyU_updh : ∀ (upd : Upd) (h : Nat → Option Blk) (k : Nat) (b : Option Blk), (∀ u ∈ upd, u.1 ≠ k) → applyU (updh h k b) upd = updh (applyU h upd) k b
  | [], _, _, _, _ => rfl
  | u :: r, h, k, b, hn => by
    simp only [applyU]
    rw [updh_comm h b u.2 (Ne.symm (hn u (List.mem_cons_self ..))), applyU_updh r _ k b (fun v hv => hn v (List.mem_cons_of_mem _ hv))]

theorem applyU_comm : ∀ (x y : Upd) (h : Nat → Option Blk), (∀ u ∈ x, ∀ v ∈ y, u.1 ≠ v.1) → applyU (applyU h x) y = applyU (applyU h y) x
  | [], _, _, _ => rfl
  | u :: r, y, h, hn => by
    simp only [applyU]
    rw [applyU_comm r y _ (fun v hv => hn v (List.mem_cons_of_mem _ hv)), applyU_updh y h u.1 u.2 (fun v hv => Ne.symm (hn u (List.mem_cons_self ..) v hv))]

def classOK (x y : Oper) : Bool := !(writesOp x.op && readsOp y.op) && !(readsOp x.op && writesOp y.op)

theorem apart_symm {ops : Array Oper} {x y : Oper} (h : x.apart ops y = true) : (∀ d, x.dst = some d → d ∉ y.looksAt ops) ∧ (∀ d, x.dst = some d → y.dst ≠ some d) ∧ (∀ d, y.dst = some d → d ∉ x.looksAt ops) := Oper.apart_spec h

section
variable {P : Program} {Γ : FuncId → Option Ct} {N : Nat} {mask : Nat → Nat} {ops : Array Oper}

/-- What one operation has done to the blocks, the other one does not see. -/
theorem get_same {i j : Nat} {oi oj : Oper} {upd : Upd} {h : Nat → Option Blk} (hne : i ≠ j) (hij : (mask j).testBit i = false) (hcl : writesOp oi.op = true → readsOp oj.op = false)
    (hu : upd.all (fun u => (writesOp oi.op && okId N (mask i) i u.1) || ownId N i u.1) = true) :
    (if readsOp oj.op then fun k => if okId N (mask j) j k then applyU h upd k else none else fun _ => none : Nat → Option Blk) = if readsOp oj.op then fun k => if okId N (mask j) j k then h k else none else fun _ => none := by
  cases hr : readsOp oj.op
  · rfl
  · simp only [if_true]
    funext k
    split
    · rename_i hk
      have hw : writesOp oi.op = false := by
        cases hw : writesOp oi.op
        · rfl
        · rw [hcl hw] at hr; simp at hr
      refine applyU_ids upd h k fun u hm e => ?_
      have := List.all_eq_true.1 hu u hm
      simp only [hw, Bool.false_and, Bool.false_or, ownId, Bool.and_eq_true, decide_eq_true_eq] at this
      subst e
      have e2 : (u.1 - N) / 16 = i := by omega
      simp only [okId, Bool.or_eq_true, decide_eq_true_eq, e2, hij] at hk
      rcases hk with hk | hk | hk
      · omega
      · exact hne hk
      · simp at hk
    · rfl

theorem upd_apart {i j : Nat} {oi oj : Oper} {x y : Upd} (hne : i ≠ j) (hij : (mask j).testBit i = false) (hji : (mask i).testBit j = false) (hcl : writesOp oi.op = true → readsOp oj.op = false)
    (hx : x.all (fun u => (writesOp oi.op && okId N (mask i) i u.1) || ownId N i u.1) = true) (hy : y.all (fun u => (writesOp oj.op && okId N (mask j) j u.1) || ownId N j u.1) = true) :
    ∀ u ∈ x, ∀ v ∈ y, u.1 ≠ v.1 := by
  intro u hu v hv e
  have h1 := List.all_eq_true.1 hx u hu
  have h2 := List.all_eq_true.1 hy v hv
  simp only [Bool.or_eq_true, Bool.and_eq_true, ownId, decide_eq_true_eq] at h1 h2
  rw [e] at h1
  have own : ∀ {q : Nat} {k : Nat}, N + 16 * q ≤ k ∧ k < N + 16 * q + 16 → (k - N) / 16 = q := fun h => by omega
  have sees : ∀ {m q k : Nat}, okId N m q k = true → k < N ∨ (k - N) / 16 = q ∨ m.testBit ((k - N) / 16) = true := by
    intro m q k h
    simpa [okId] using h
  rcases h1 with ⟨w1, s1⟩ | o1 <;> rcases h2 with ⟨w2, s2⟩ | o2
  · have := reads_of_writes w2
    rw [hcl w1] at this
    simp at this
  · have e2 := own o2
    rcases sees s1 with h | h | h
    · omega
    · omega
    · rw [e2, hji] at h; simp at h
  · have e1 := own o1
    rcases sees s2 with h | h | h
    · omega
    · omega
    · rw [e1, hij] at h; simp at h
  · have := own o1
    have := own o2
    omega

theorem astep_comm {i j : Nat} {oi oj : Oper} {s s1 s2 : FSt} (hi : ops[i]? = some oi) (hj : ops[j]? = some oj) (hne : i ≠ j) (hij : (mask j).testBit i = false) (hji : (mask i).testBit j = false)
    (hap : oi.apart ops oj = true) (hcl : classOK oi oj = true) (h1 : astep P Γ N mask ops i s = some s1) (h2 : astep P Γ N mask ops j s1 = some s2) :
    ∃ s3, astep P Γ N mask ops j s = some s3 ∧ astep P Γ N mask ops i s3 = some s2 := by
  obtain ⟨a1, a2, a3⟩ := apart_symm hap
  simp only [classOK, Bool.and_eq_true, Bool.not_eq_true', Bool.and_eq_false_iff] at hcl
  have c1 : writesOp oi.op = true → readsOp oj.op = false := fun h => by rcases hcl.1 with q | q; rw [h] at q; simp at q; exact q
  have c2 : writesOp oj.op = true → readsOp oi.op = false := fun h => by rcases hcl.2 with q | q; exact q; rw [h] at q; simp at q
  have a2' : ∀ d, oj.dst = some d → oi.dst ≠ some d := fun d hd he => a2 d he hd
  unfold astep at h1 h2 ⊢
  simp only [hi, hj] at h1 h2 ⊢
  split at h1
  · simp at h1
  · -- oi is passed over
    rename_i hwi
    simp at h1
    subst h1
    simp only [wantedA_put oj _ _ _ a1, acore_put P Γ oj _ _ _ _ _ a1] at h2
    split at h2
    · simp at h2
    · rename_i hwj
      simp at h2
      subst h2
      refine ⟨⟨putS s.slots oj.dst (.tup []), s.h⟩, by simp only, ?_⟩
      simp only [wantedA_put oi _ _ _ a3, hwi]
      rw [putS_comm _ _ _ a2']
    · rename_i hwj
      split at h2
      · simp at h2
      rename_i v upd hc
      split at h2
      case isFalse => simp at h2
      rename_i hall
      simp at h2
      subst h2
      refine ⟨⟨putS s.slots oj.dst v, applyU s.h upd⟩, by simp only [hall, if_true], ?_⟩
      simp only [wantedA_put oi _ _ _ a3, hwi]
      rw [putS_comm _ _ _ a2']
  · rename_i hwi
    split at h1
    · simp at h1
    rename_i v upd hc
    split at h1
    case isFalse => simp at h1
    rename_i hall
    simp at h1
    subst h1
    simp only [wantedA_put oj _ _ _ a1, acore_put P Γ oj _ _ _ _ _ a1] at h2
    rw [get_same (oi := oi) (i := i) hne hij c1 hall] at h2
    split at h2
    · simp at h2
    · rename_i hwj
      simp at h2
      subst h2
      refine ⟨⟨putS s.slots oj.dst (.tup []), s.h⟩, by simp only, ?_⟩
      simp only [wantedA_put oi _ _ _ a3, hwi, acore_put P Γ oi _ _ _ _ _ a3, hc, hall, if_true]
      rw [putS_comm _ _ _ a2']
    · rename_i hwj
      split at h2
      · simp at h2
      rename_i v' upd' hc'
      split at h2
      case isFalse => simp at h2
      rename_i hall'
      simp at h2
      subst h2
      refine ⟨⟨putS s.slots oj.dst v', applyU s.h upd'⟩, by simp only [hall', if_true], ?_⟩
      simp only [wantedA_put oi _ _ _ a3, hwi, acore_put P Γ oi _ _ _ _ _ a3]
      rw [get_same (oi := oj) (oj := oi) (i := j) (Ne.symm hne) hji c2 hall']
      simp only [hc, hall, if_true]
      rw [putS_comm _ _ _ a2', applyU_comm upd upd' s.h (upd_apart hne hij hji c1 hall hall')]
end
end Go.Ev
