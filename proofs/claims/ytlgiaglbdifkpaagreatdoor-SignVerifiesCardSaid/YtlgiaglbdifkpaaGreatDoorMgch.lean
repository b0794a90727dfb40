/- Texts put together: EvI EvJ. Own work. -/
import Derived.Test.YtlgiaglbdifkpaaGreatDoorMgcg
import Derived.Still
/- Regions: in the order of the text, or in whatever order the edges allow. Own work; no statement of the seat is proved here. -/
namespace Go.Ev
open Go.RowKit

def aeval (slots : List AV) : Operand → AV
  | .tmp t => slots.getD t (.tup [])
  | .const v => (avOf v).getD .any
  | .global g => sc (.gp g 0)
  | .func f => .fn f [] []

theorem aeval_ok {ρ : Nat → Pl} {slots : List AV} {a : Act} (h : F2 (VRepr ρ) slots a.tmps.toList) (x : Operand) : VRepr ρ (aeval slots x) (a.eval x) := by
  cases x with
  | tmp t =>
    simp only [aeval, Act.eval, List.getD]
    cases hs : slots[t]? with
    | none =>
      have h1 : a.tmps.toList[t]? = none := by
        rw [List.getElem?_eq_none_iff] at hs ⊢
        rw [← h.length]; exact hs
      have h2 : a.tmps[t]? = none := by simpa using h1
      simp only [Option.getD_none, Array.getD_eq_getD_getElem?, h2]
      exact VRepr_undef ρ
    | some x =>
      obtain ⟨v, h1, h2⟩ := h.get hs
      have h3 : a.tmps[t]? = some v := by simpa using h1
      simp only [Option.getD_some, Array.getD_eq_getD_getElem?, h3]
      exact h2
  | const v =>
    simp only [aeval, Act.eval]
    cases hv : avOf v with
    | none => trivial
    | some x => exact avOf_ok hv
  | global g => exact VRepr_sc.2 rfl
  | func f => exact ⟨[], [], rfl, trivial, trivial⟩

def putS (slots : List AV) (dst : Option Tmp) (x : AV) : List AV :=
  match dst with
  | some d => slots.set d x
  | none => slots

theorem putS_ok {ρ : Nat → Pl} {slots : List AV} {a : Act} (h : F2 (VRepr ρ) slots a.tmps.toList) (dst : Option Tmp) {x : AV} {v : Value} (hx : VRepr ρ x v) : F2 (VRepr ρ) (putS slots dst x) (a.put dst v).tmps.toList := by
  cases dst with
  | none => exact h
  | some d =>
    simp only [putS, Act.put, Array.toList_setIfInBounds]
    exact h.set d hx

def wantedA (ops : Array Oper) (slots : List AV) (o : Oper) : Option Bool :=
  match o.guard with
  | none => some true
  | some (j, want) =>
    match (ops[j]?).bind (·.dst) with
    | none => some false
    | some t =>
      match slots.getD t (.tup []) with
      | .val false [.bool b] => some (b == want)
      | .tup [] => some false
      | _ => none

theorem wantedA_ok {ρ : Nat → Pl} {slots : List AV} {a : Act} {ops : Array Oper} {o : Oper} {b : Bool} (h : F2 (VRepr ρ) slots a.tmps.toList) (hw : wantedA ops slots o = some b) : Region.wanted o (yielded ops a.tmps) = b := by
  unfold wantedA at hw
  unfold Region.wanted
  split at hw
  · rename_i hg; simp at hw; rw [hg, hw]
  · rename_i j want hg
    rw [hg]
    simp only
    split at hw
    · rename_i ht
      simp at hw
      subst hw
      simp [yielded, ht]
    · rename_i t ht
      have hev := aeval_ok h (.tmp t)
      simp only [aeval, Act.eval] at hev
      split at hw
      · rename_i c hs
        simp at hw
        rw [hs] at hev
        have hv := VRepr_sc.1 hev
        simp [ICells, PCells] at hv
        have hv2 : a.tmps[t]? = some (.bool c) := by
          cases hq : a.tmps[t]? with
          | none => simp [hq, undef] at hv
          | some z => simp [hq] at hv; rw [← hv]
        simp only [yielded, ht, Option.bind_some, hv2]
        rw [← hw]
        cases c <;> cases want <;> rfl
      · rename_i hs
        simp at hw
        subst hw
        rw [hs] at hev
        obtain ⟨vs, hv, hF⟩ := hev
        have : vs = [] := by match vs, hF with | [], _ => rfl
        subst this
        have hv2 : ∀ c, a.tmps[t]? ≠ some (.bool c) := by
          intro c hq
          simp [hq] at hv
        simp only [yielded, ht, Option.bind_some]
        cases hq : a.tmps[t]? with
        | none => simp
        | some z => cases z <;> first | simp | exact absurd hq (hv2 _)
      · simp at hw

/-! ### One step -/
structure FSt where
  slots : List AV
  h : Nat → Option Blk

def readsOp : Op → Bool
  | .load .. | .store .. | .slice .. | .convert .. | .call _ => true
  | _ => false
def writesOp : Op → Bool
  | .store .. => true
  | .call c => match c.callee with
    | .builtin .append | .builtin .copy => true
    | _ => false
  | _ => false
theorem reads_of_writes {op : Op} (h : writesOp op = true) : readsOp op = true := by
  cases op <;> first | rfl | (simp [writesOp] at h)

/-- Which operations come before one; and the one old block that it looks at, where that is known. -/
structure Msk where
  m : Nat
  v : Option Nat
def viewB : Option Nat → Nat → Bool
  | none, _ => true
  | some b, k => decide (b = k)
/-- May operation i look at block k: one that was there before the region, its own, or one of an operation that comes before it? -/
def okId (N : Nat) (m : Msk) (i k : Nat) : Bool := (decide (k < N) && viewB m.v k) || (decide ((k - N) / 16 = i) || m.m.testBit ((k - N) / 16))
def ownId (N i k : Nat) : Bool := decide (N + 16 * i ≤ k) && decide (k < N + 16 * i + 16)
/-- May operation i change block k: does none look at it that neither comes before nor behind? -/
def sepOK (N : Nat) (mask : Nat → Msk) (i k : Nat) : List Oper → Nat → Bool
  | [], _ => true
  | o :: r, j => (!(readsOp o.op) || decide (j = i) || (mask j).m.testBit i || (mask i).m.testBit j || !(okId N (mask j) j k)) && sepOK N mask i k r (j + 1)
theorem sepOK_ok {N : Nat} {mask : Nat → Msk} {i k : Nat} : ∀ {l : List Oper} {n : Nat}, sepOK N mask i k l n = true → ∀ (j : Nat) (o : Oper), l[j]? = some o → readsOp o.op = true → n + j ≠ i → (mask (n + j)).m.testBit i = false → (mask i).m.testBit (n + j) = false → okId N (mask (n + j)) (n + j) k = false := by
  intro l
  induction l with
  | nil => intro n _ j o h; simp at h
  | cons q r ih =>
    intro n h j o ho hr hne h1 h2
    simp only [sepOK, Bool.and_eq_true, Bool.or_eq_true, Bool.not_eq_true', decide_eq_true_eq] at h
    cases j with
    | zero =>
      simp at ho
      subst ho
      simp only [Nat.add_zero] at *
      rcases h.1 with (((h | h) | h) | h) | h
      · rw [hr] at h; simp at h
      · exact absurd h hne
      · rw [h1] at h; simp at h
      · rw [h2] at h; simp at h
      · exact h
    | succ j =>
      have := ih h.2 j o (by simpa using ho) hr
      rw [Nat.add_assoc, Nat.add_comm 1 j] at this
      exact this hne h1 h2
def updOK (N : Nat) (mask : Nat → Msk) (ops : Array Oper) (i : Nat) (o : Oper) (upd : Upd) : Bool :=
  upd.all fun u => ownId N i u.1 || (writesOp o.op && okId N (mask i) i u.1 && sepOK N mask i u.1 ops.toList 0)
theorem updOK_ok {N : Nat} {mask : Nat → Msk} {ops : Array Oper} {i : Nat} {o : Oper} {upd : Upd} (h : updOK N mask ops i o upd = true) : ∀ u ∈ upd, ownId N i u.1 = true ∨
    (writesOp o.op = true ∧ okId N (mask i) i u.1 = true ∧ ∀ (j : Nat) (y : Oper), ops[j]? = some y → readsOp y.op = true → j ≠ i → (mask j).m.testBit i = false → (mask i).m.testBit j = false → okId N (mask j) j u.1 = false) := by
  intro u hu
  have := List.all_eq_true.1 h u hu
  simp only [Bool.or_eq_true, Bool.and_eq_true] at this
  refine this.imp id fun ⟨⟨a, b⟩, c⟩ => ⟨a, b, fun j y hy => ?_⟩
  have := sepOK_ok c j y (by simpa using hy)
  simpa using this

section
variable (P : Program) (Γ : FuncId → Option Ct) (N : Nat) (mask : Nat → Msk) (ops : Array Oper)

def astep (i : Nat) (s : FSt) : Option FSt :=
  match ops[i]? with
  | none => none
  | some o =>
    match wantedA ops s.slots o with
    | none => none
    | some false => some ⟨putS s.slots o.dst (.tup []), s.h⟩
    | some true =>
      match acore P Γ o (aeval s.slots) (if readsOp o.op then fun k => if okId N (mask i) i k then s.h k else none else fun _ => none) (N + 16 * i) with
      | none => none
      | some (v, upd) => if updOK N mask ops i o upd then some ⟨putS s.slots o.dst v, applyU s.h upd⟩ else none

structure RelF (base : World) (ρ : Nat → Pl) (a : Act) (w : World) (s : FSt) (listed : Nat → Bool) : Prop where
  defers : a.defers = []
  slots : F2 (VRepr ρ) s.slots a.tmps.toList
  heap : HOk base.heap.size ρ w s.h
  below : BelowG base w
  fresh : ∀ k, N ≤ k → ρ k ≠ .un → listed ((k - N) / 16) = true
end

section
variable {P : Program} {Γ : FuncId → Option Ct} {N : Nat} {mask : Nat → Msk} {ops : Array Oper}

theorem applyU_ids : ∀ (upd : Upd) (h : Nat → Option Blk) (k : Nat), (∀ u ∈ upd, u.1 ≠ k) → applyU h upd k = h k
  | [], _, _, _ => rfl
  | u :: r, h, k, hn => by
    simp only [applyU]
    rw [applyU_ids r _ k (fun v hv => hn v (List.mem_cons_of_mem _ hv))]
    have := hn u (List.mem_cons_self ..)
    simp [updh, Ne.symm this]

theorem astep_sound (hΓ : GSound P Γ) {base : World} {ρ : Nat → Pl} {a : Act} {w : World} {s s' : FSt} {listed : Nat → Bool} {i : Nat} {K : Act → World → Prop} {Q : Exit → Act → World → Prop}
    (hr : RelF N base ρ a w s listed) (hi : listed i = false) (hs : astep P Γ N mask ops i s = some s')
    (hK : ∀ ρ' a' w', Ext ρ ρ' → RelF N base ρ' a' w' s' (fun j => j == i || listed j) → K a' w') : wpOp P ops Q i K a w := by
  unfold astep at hs
  unfold wpOp
  split at hs
  · simp at hs
  rename_i o ho
  simp only [ho]
  split at hs
  · simp at hs
  · rename_i hw
    simp at hs
    subst hs
    rw [wantedA_ok hr.slots hw]
    simp only [Bool.false_eq_true, if_false]
    refine hK ρ _ w (Ext.refl ρ) ⟨?_, putS_ok hr.slots o.dst (VRepr_undef ρ), hr.heap, hr.below, fun k hk hu => ?_⟩
    · cases o.dst <;> exact hr.defers
    · simp [hr.fresh k hk hu]
  · rename_i hw
    split at hs
    · simp at hs
    rename_i v upd hc
    split at hs
    case isFalse => simp at hs
    simp at hs
    subst hs
    rw [wantedA_ok hr.slots hw]
    simp only [if_true]
    left
    have hun : ∀ k, N + 16 * i ≤ k → k < N + 16 * i + 16 → ρ k = .un := by
      intro k h1 h2
      by_cases hρ : ρ k = .un
      · exact hρ
      · have h3 := hr.fresh k (by omega) hρ
        have e : (k - N) / 16 = i := by omega
        rw [e, hi] at h3
        simp at h3
    refine acore_sound hΓ hr.below.now hr.heap (fun k b hk => ?_) (aeval_ok hr.slots) hun hr.below.size hc ?_
    · split at hk
      · simp only at hk
        split at hk
        · exact hk
        · simp at hk
      · simp at hk
    · rintro u w' ⟨ρ', h1, h2, h3, h4, h5⟩
      refine hK ρ' _ w' h1 ⟨?_, putS_ok (F2.imp (fun _ _ => VRepr.ext h1) hr.slots) o.dst h3, h4, hr.below.trans h5, fun k hk hu => ?_⟩
      · cases o.dst <;> exact hr.defers
      · by_cases hq : ρ k = .un
        · have := h2 k hq hu
          have e : (k - N) / 16 = i := by omega
          simp [e]
        · simp [hr.fresh k hk hq]
end

/-! ### Two operations that do not hang on one another -/
theorem acore_congr (P : Program) (Γ : FuncId → Option Ct) (o : Oper) {ev ev' : Operand → AV} (get : Nat → Option Blk) (F : Nat) (h : ∀ x ∈ o.op.operands, ev x = ev' x) :
    acore P Γ o ev get F = acore P Γ o ev' get F := by
  obtain ⟨dst, op, type, pos, after, guard⟩ := o
  have pairs : ∀ ps : List (Nat × Operand), (∀ x ∈ ps.map (·.2), ev x = ev' x) → (ps.map fun p => (p.1, ev p.2)) = ps.map fun p => (p.1, ev' p.2) := by
    intro ps hp
    refine List.map_congr_left fun p hm => ?_
    rw [hp p.2 (List.mem_map.2 ⟨p, hm, rfl⟩)]
  cases op <;> simp only [Op.operands] at h <;> simp only [acore]
  case build t ps => rw [pairs ps.toList fun x hx => h x (by simpa using hx)]
  case buildSlice t n ps => rw [pairs ps.toList fun x hx => h x (by simpa using hx)]
  case makeFunc fn first captured =>
    cases fn <;> try rfl
    simp only
    rw [List.map_congr_left (l := first.toList) fun x hx => h x (by simp [Array.mem_toList_iff.1 hx]), List.map_congr_left (l := captured.toList) fun x hx => h x (by simp [Array.mem_toList_iff.1 hx])]
  case call c =>
    have hargs : c.args.toList.map ev = c.args.toList.map ev' := List.map_congr_left fun x hx => h x (by simp [Call.operands, Array.mem_toList_iff.1 hx])
    cases hc : c.callee with
    | value f => have hf : ev f = ev' f := h f (by simp [Call.operands, hc]); simp only [hf, hargs]
    | invoke r m => rfl
    | builtin b => simp only [hargs]
  case slice t x lo hi mx => cases lo <;> cases hi <;> cases mx <;> simp_all
  all_goals (first | rfl | (simp_all; done))

theorem aeval_put {slots : List AV} {dst : Option Tmp} {v : AV} {x : Operand} (h : ∀ d, dst = some d → x ≠ .tmp d) : aeval (putS slots dst v) x = aeval slots x := by
  cases dst with
  | none => rfl
  | some d =>
    cases x with
    | tmp t =>
      have hne : d ≠ t := fun e => h d rfl (e ▸ rfl)
      simp [aeval, putS, List.getElem?_set_ne hne]
    | _ => rfl

theorem acore_put (P : Program) (Γ : FuncId → Option Ct) {ops : Array Oper} (o : Oper) (slots : List AV) (dst : Option Tmp) (v : AV) (get : Nat → Option Blk) (F : Nat) (h : ∀ d, dst = some d → d ∉ o.looksAt ops) :
    acore P Γ o (aeval (putS slots dst v)) get F = acore P Γ o (aeval slots) get F :=
  acore_congr P Γ o get F fun x hx => aeval_put fun d hd hxd => h d hd (by
    subst hxd
    exact List.mem_append_left _ (List.mem_filterMap.2 ⟨.tmp d, by simpa using hx, rfl⟩))

theorem wantedA_put {ops : Array Oper} (o : Oper) (slots : List AV) (dst : Option Tmp) (v : AV) (h : ∀ d, dst = some d → d ∉ o.looksAt ops) : wantedA ops (putS slots dst v) o = wantedA ops slots o := by
  cases dst with
  | none => rfl
  | some d =>
    unfold wantedA
    cases hg : o.guard with
    | none => rfl
    | some gw =>
      obtain ⟨g, want⟩ := gw
      simp only
      cases ht : (ops[g]?).bind (·.dst) with
      | none => rfl
      | some t =>
        have hne : d ≠ t := fun e => h d rfl (by subst e; simp [Oper.looksAt, hg, ht])
        simp [putS, List.getElem?_set_ne hne]

theorem putS_comm (slots : List AV) {x y : Option Tmp} (v u : AV) (h : ∀ d, x = some d → y ≠ some d) : putS (putS slots x v) y u = putS (putS slots y u) x v := by
  cases x with
  | none => rfl
  | some d =>
    cases y with
    | none => rfl
    | some e =>
      have hne : d ≠ e := fun he => h d rfl (he ▸ rfl)
      simp only [putS]
      rw [List.set_comm _ _ hne]

theorem updh_comm (h : Nat → Option Blk) {k j : Nat} (b c : Option Blk) (hne : k ≠ j) : updh (updh h k b) j c = updh (updh h j c) k b := by
  funext i
  simp only [updh]
  by_cases h1 : i = j <;> by_cases h2 : i = k
  · omega
  · simp [h1, Ne.symm hne]
  · simp [h2, hne]
  · simp [h1, h2]

theorem applyU_updh : ∀ (upd : Upd) (h : Nat → Option Blk) (k : Nat) (b : Option Blk), (∀ u ∈ upd, u.1 ≠ k) → applyU (updh h k b) upd = updh (applyU h upd) k b
  | [], _, _, _, _ => rfl
  | u :: r, h, k, b, hn => by
    simp only [applyU]
    rw [updh_comm h b u.2 (Ne.symm (hn u (List.mem_cons_self ..))), applyU_updh r _ k b (fun v hv => hn v (List.mem_cons_of_mem _ hv))]

theorem applyU_comm : ∀ (x y : Upd) (h : Nat → Option Blk), (∀ u ∈ x, ∀ v ∈ y, u.1 ≠ v.1) → applyU (applyU h x) y = applyU (applyU h y) x
  | [], _, _, _ => rfl
  | u :: r, y, h, hn => by
    simp only [applyU]
    rw [applyU_comm r y _ (fun v hv => hn v (List.mem_cons_of_mem _ hv)), applyU_updh y h u.1 u.2 (fun v hv => Ne.symm (hn u (List.mem_cons_self ..) v hv))]

theorem apart_symm {ops : Array Oper} {x y : Oper} (h : x.apart ops y = true) : (∀ d, x.dst = some d → d ∉ y.looksAt ops) ∧ (∀ d, x.dst = some d → y.dst ≠ some d) ∧ (∀ d, y.dst = some d → d ∉ x.looksAt ops) := Oper.apart_spec h

section
variable {P : Program} {Γ : FuncId → Option Ct} {N : Nat} {mask : Nat → Msk} {ops : Array Oper}

/-- What one operation has done to the blocks, the other one does not see. -/
theorem get_same {i j : Nat} {oi oj : Oper} {upd : Upd} {h : Nat → Option Blk} (hj : ops[j]? = some oj) (hne : i ≠ j) (hij : (mask j).m.testBit i = false) (hji : (mask i).m.testBit j = false)
    (hu : updOK N mask ops i oi upd = true) :
    (if readsOp oj.op then fun k => if okId N (mask j) j k then applyU h upd k else none else fun _ => none : Nat → Option Blk) = if readsOp oj.op then fun k => if okId N (mask j) j k then h k else none else fun _ => none := by
  cases hr : readsOp oj.op
  · rfl
  · simp only [if_true]
    funext k
    split
    · rename_i hk
      refine applyU_ids upd h k fun u hm e => ?_
      subst e
      rcases updOK_ok hu u hm with this | ⟨_, _, this⟩
      · simp only [ownId, Bool.and_eq_true, decide_eq_true_eq] at this
        have e2 : (u.1 - N) / 16 = i := by omega
        simp only [okId, Bool.or_eq_true, Bool.and_eq_true, decide_eq_true_eq, e2, hij] at hk
        rcases hk with hk | hk | hk
        · omega
        · exact hne hk
        · simp at hk
      · rw [this j oj hj hr (Ne.symm hne) hij hji] at hk
        simp at hk
    · rfl

theorem upd_apart {i j : Nat} {oi oj : Oper} {x y : Upd} (hj : ops[j]? = some oj) (hne : i ≠ j) (hij : (mask j).m.testBit i = false) (hji : (mask i).m.testBit j = false)
    (hx : updOK N mask ops i oi x = true) (hy : updOK N mask ops j oj y = true) :
    ∀ u ∈ x, ∀ v ∈ y, u.1 ≠ v.1 := by
  intro u hu v hv e
  have h1 := updOK_ok hx u hu
  have h2 := updOK_ok hy v hv
  simp only [ownId, Bool.and_eq_true, decide_eq_true_eq] at h1 h2
  rw [e] at h1
  have own : ∀ {q : Nat} {k : Nat}, N + 16 * q ≤ k ∧ k < N + 16 * q + 16 → (k - N) / 16 = q := fun h => by omega
  have sees : ∀ {m : Msk} {q k : Nat}, okId N m q k = true → k < N ∨ (k - N) / 16 = q ∨ m.m.testBit ((k - N) / 16) = true := by
    intro m q k h
    simp only [okId, Bool.or_eq_true, Bool.and_eq_true, decide_eq_true_eq] at h
    exact h.imp And.left id
  rcases h1 with o1 | ⟨w1, s1, t1⟩ <;> rcases h2 with o2 | ⟨w2, s2, t2⟩
  · have := own o1
    have := own o2
    omega
  · have e1 := own o1
    rcases sees s2 with h | h | h
    · omega
    · omega
    · rw [e1, hij] at h; simp at h
  · have e2 := own o2
    rcases sees s1 with h | h | h
    · omega
    · omega
    · rw [e2, hji] at h; simp at h
  · rw [t1 j oj hj (reads_of_writes w2) (Ne.symm hne) hij hji] at s2
    simp at s2

theorem astep_comm {i j : Nat} {oi oj : Oper} {s s1 s2 : FSt} (hi : ops[i]? = some oi) (hj : ops[j]? = some oj) (hne : i ≠ j) (hij : (mask j).m.testBit i = false) (hji : (mask i).m.testBit j = false)
    (hap : oi.apart ops oj = true) (h1 : astep P Γ N mask ops i s = some s1) (h2 : astep P Γ N mask ops j s1 = some s2) :
    ∃ s3, astep P Γ N mask ops j s = some s3 ∧ astep P Γ N mask ops i s3 = some s2 := by
  obtain ⟨a1, a2, a3⟩ := apart_symm hap
  have a2' : ∀ d, oj.dst = some d → oi.dst ≠ some d := fun d hd he => a2 d he hd
  unfold astep at h1 h2 ⊢
  simp only [hi, hj] at h1 h2 ⊢
  split at h1
  · simp at h1
  · -- oi is passed over
    rename_i hwi
    simp at h1
    subst h1
    simp only [wantedA_put oj _ _ _ a1, acore_put P Γ oj _ _ _ _ _ a1] at h2
    split at h2
    · simp at h2
    · rename_i hwj
      simp at h2
      subst h2
      refine ⟨⟨putS s.slots oj.dst (.tup []), s.h⟩, by simp only, ?_⟩
      simp only [wantedA_put oi _ _ _ a3, hwi]
      rw [putS_comm _ _ _ a2']
    · rename_i hwj
      split at h2
      · simp at h2
      rename_i v upd hc
      split at h2
      case isFalse => simp at h2
      rename_i hall
      simp at h2
      subst h2
      refine ⟨⟨putS s.slots oj.dst v, applyU s.h upd⟩, by simp only [hall, if_true], ?_⟩
      simp only [wantedA_put oi _ _ _ a3, hwi]
      rw [putS_comm _ _ _ a2']
  · rename_i hwi
    split at h1
    · simp at h1
    rename_i v upd hc
    split at h1
    case isFalse => simp at h1
    rename_i hall
    simp at h1
    subst h1
    simp only [wantedA_put oj _ _ _ a1, acore_put P Γ oj _ _ _ _ _ a1] at h2
    rw [get_same (oi := oi) (i := i) hj hne hij hji hall] at h2
    split at h2
    · simp at h2
    · rename_i hwj
      simp at h2
      subst h2
      refine ⟨⟨putS s.slots oj.dst (.tup []), s.h⟩, by simp only, ?_⟩
      simp only [wantedA_put oi _ _ _ a3, hwi, acore_put P Γ oi _ _ _ _ _ a3, hc, hall, if_true]
      rw [putS_comm _ _ _ a2']
    · rename_i hwj
      split at h2
      · simp at h2
      rename_i v' upd' hc'
      split at h2
      case isFalse => simp at h2
      rename_i hall'
      simp at h2
      subst h2
      refine ⟨⟨putS s.slots oj.dst v', applyU s.h upd'⟩, by simp only [hall', if_true], ?_⟩
      simp only [wantedA_put oi _ _ _ a3, hwi, acore_put P Γ oi _ _ _ _ _ a3]
      rw [get_same (oi := oj) (oj := oi) (i := j) hi (Ne.symm hne) hji hij hall']
      simp only [hc, hall, if_true]
      rw [putS_comm _ _ _ a2', applyU_comm upd upd' s.h (upd_apart hj hne hij hji hall hall')]
end
end Go.Ev
/- Regions in whatever order, code, loops, functions. Own work; no statement of the seat is proved here. -/
namespace Go.Ev
open Go.RowKit

/-! ### Which operations come before which -/
def opMask (acc : List Nat) (o : Oper) : Nat :=
  o.after.toList.foldl (fun m e => if Region.binds .any e then m ||| (1 <<< e.on) ||| acc.getD e.on 0 else m) 0
def masksOf (ops : List Oper) : List Nat := ops.foldl (fun acc o => acc ++ [opMask acc o]) []

def edgesOK : List Oper → Nat → Bool
  | [], _ => true
  | o :: r, k => (o.after.toList.all fun e => !(Region.binds .any e) || decide (e.on < k)) && edgesOK r (k + 1)
def pairOK (ops : Array Oper) (masks : List Nat) (i j : Nat) (x y : Oper) : Bool :=
  (masks.getD j 0).testBit i || x.apart ops y
def rowOK (ops : Array Oper) (masks : List Nat) (i : Nat) (x : Oper) : List Oper → Nat → Bool
  | [], _ => true
  | y :: r, j => pairOK ops masks i j x y && rowOK ops masks i x r (j + 1)
def pairsOK (ops : Array Oper) (masks : List Nat) : List Oper → Nat → Bool
  | [], _ => true
  | x :: r, i => rowOK ops masks i x r (i + 1) && pairsOK ops masks r (i + 1)
def regOK (ops : List Oper) : Bool := edgesOK ops 0 && pairsOK ops.toArray (masksOf ops) ops 0

theorem edgesOK_ok : ∀ (l : List Oper) (k i : Nat) (o : Oper), edgesOK l k = true → l[i]? = some o → ∀ e ∈ o.after, Region.binds .any e = true → e.on < k + i := by
  intro l
  induction l with
  | nil => intro k i o _ he; simp at he
  | cons q r ih =>
    intro k i o h he e hm hb
    simp only [edgesOK, Bool.and_eq_true, List.all_eq_true] at h
    cases i with
    | zero =>
      simp at he
      subst he
      have := h.1 e (Array.mem_toList_iff.2 hm)
      simp only [hb, Bool.not_true, Bool.false_or, decide_eq_true_eq] at this
      omega
    | succ i =>
      have := ih (k + 1) i o h.2 (by simpa using he) e hm hb
      omega

theorem rowOK_ok {ops : Array Oper} {masks : List Nat} {i : Nat} {x : Oper} : ∀ (l : List Oper) (k j : Nat) (y : Oper), rowOK ops masks i x l k = true → l[j]? = some y → pairOK ops masks i (k + j) x y = true := by
  intro l
  induction l with
  | nil => intro k j y _ he; simp at he
  | cons q r ih =>
    intro k j y h he
    simp only [rowOK, Bool.and_eq_true] at h
    cases j with
    | zero =>
      simp at he
      subst he
      exact h.1
    | succ j =>
      have := ih (k + 1) j y h.2 (by simpa using he)
      rwa [Nat.add_assoc, Nat.add_comm 1 j] at this
theorem pairsOK_ok {ops : Array Oper} {masks : List Nat} : ∀ (l : List Oper) (k i j : Nat) (x y : Oper), pairsOK ops masks l k = true → l[i]? = some x → l[j]? = some y → i < j → pairOK ops masks (k + i) (k + j) x y = true := by
  intro l
  induction l with
  | nil => intro k i j x y _ he; simp at he
  | cons q r ih =>
    intro k i j x y h hx hy hij
    simp only [pairsOK, Bool.and_eq_true] at h
    cases j with
    | zero => omega
    | succ j =>
      cases i with
      | zero =>
        simp at hx
        subst hx
        have := rowOK_ok r (k + 1) j y h.1 (by simpa using hy)
        rwa [Nat.add_assoc, Nat.add_comm 1 j] at this
      | succ i =>
        have := ih (k + 1) i j x y h.2 (by simpa using hx) (by simpa using hy) (by omega)
        rwa [Nat.add_assoc, Nat.add_comm 1 i, Nat.add_assoc, Nat.add_comm 1 j] at this

theorem opMask_ok (acc : List Nat) : ∀ (l : List Edge) (m p : Nat), (l.foldl (fun m e => if Region.binds .any e then m ||| (1 <<< e.on) ||| acc.getD e.on 0 else m) m).testBit p = true →
    m.testBit p = true ∨ ∃ e ∈ l, Region.binds .any e = true ∧ (p = e.on ∨ (acc.getD e.on 0).testBit p = true)
  | [], m, p, h => .inl h
  | e :: l, m, p, h => by
    simp only [List.foldl_cons] at h
    rcases opMask_ok acc l _ p h with h | ⟨e', h1, h2⟩
    · split at h
      · rename_i hb
        simp only [Nat.testBit_or, Bool.or_eq_true] at h
        rcases h with (h | h) | h
        · exact .inl h
        · refine .inr ⟨e, List.mem_cons_self .., hb, .inl ?_⟩
          rw [Nat.shiftLeft_eq, Nat.one_mul, Nat.testBit_two_pow] at h
          simp at h
          exact h.symm
        · exact .inr ⟨e, List.mem_cons_self .., hb, .inr h⟩
      · exact .inl h
    · exact .inr ⟨e', List.mem_cons_of_mem _ h1, h2⟩

theorem masks_fold : ∀ (l : List Oper) (acc : List Nat), ∃ t, l.foldl (fun acc o => acc ++ [opMask acc o]) acc = acc ++ t ∧ t.length = l.length ∧
    ∀ i o, l[i]? = some o → t[i]? = some (opMask (acc ++ t.take i) o)
  | [], acc => ⟨[], by simp, rfl, fun i o h => by simp at h⟩
  | o :: l, acc => by
    obtain ⟨t, h1, h2, h3⟩ := masks_fold l (acc ++ [opMask acc o])
    refine ⟨opMask acc o :: t, by simp only [List.foldl_cons]; rw [h1]; simp, by simp [h2], fun i q hq => ?_⟩
    cases i with
    | zero => simp at hq; subst hq; simp
    | succ i =>
      have := h3 i q (by simpa using hq)
      simp only [List.getElem?_cons_succ, this, List.take_succ_cons]
      simp

theorem masksOf_ok {ops : List Oper} {q p : Nat} (h : ((masksOf ops).getD q 0).testBit p = true) :
    ∃ o, ops[q]? = some o ∧ ∃ e ∈ o.after, Region.binds .any e = true ∧ (p = e.on ∨ (e.on < q ∧ ((masksOf ops).getD e.on 0).testBit p = true)) := by
  obtain ⟨t, h1, h2, h3⟩ := masks_fold ops []
  have hm : masksOf ops = t := by unfold masksOf; rw [h1]; simp
  rw [hm] at h ⊢
  cases ho : ops[q]? with
  | none =>
    have : t[q]? = none := by rw [List.getElem?_eq_none_iff] at ho ⊢; omega
    simp [List.getD, this] at h
  | some o =>
    have ht := h3 q o ho
    simp only [List.nil_append] at ht
    simp only [List.getD, ht, Option.getD_some] at h
    refine ⟨o, rfl, ?_⟩
    unfold opMask at h
    rcases opMask_ok _ _ _ _ h with h | ⟨e, he, hb, h⟩
    · simp at h
    · refine ⟨e, Array.mem_toList_iff.1 he, hb, ?_⟩
      rcases h with h | h
      · exact .inl h
      · right
        simp only [List.getD, List.getElem?_take] at h
        split at h
        · exact ⟨‹_›, by simpa [List.getD] using h⟩
        · simp at h

/-! ### Any order -/
section
variable {P : Program} {Γ : FuncId → Option Ct} {N : Nat} {ops : Array Oper}

abbrev mk (ops : Array Oper) (i : Nat) : Nat := (masksOf ops.toList).getD i 0
abbrev mkW (vc : Nat → Option Nat) (ops : Array Oper) (i : Nat) : Msk := ⟨mk ops i, vc i⟩
variable {vc : Nat → Option Nat}

def wpAnyF (P : Program) (Γ : FuncId → Option Ct) (N : Nat) (vc : Nat → Option Nat) (ops : Array Oper) (Q : FSt → Prop) : Nat → Array Bool → FSt → Prop
  | 0, listed, s => Region.ready .any ops listed = [] ∧ Q s
  | fuel + 1, listed, s =>
    (Region.ready .any ops listed = [] → Q s) ∧
    ∀ i ∈ Region.ready .any ops listed, ∃ s', astep P Γ N (mkW vc ops) ops i s = some s' ∧ wpAnyF P Γ N vc ops Q fuel (listed.setIfInBounds i true) s'

def ClosedL (ops : Array Oper) (listed : Array Bool) : Prop := ∀ m o, listed.getD m false = true → ops[m]? = some o → ∀ e ∈ o.after, Region.binds .any e = true → listed.getD e.on false = true

theorem closed_mask {listed : Array Bool} (hc : ClosedL ops listed) : ∀ (q p : Nat), listed.getD q false = true → (mk ops q).testBit p = true → listed.getD p false = true := by
  intro q
  induction q using Nat.strongRecOn with
  | _ q ih =>
    intro p hq hp
    obtain ⟨o, ho, e, he, hb, h⟩ := masksOf_ok hp
    have ho' : ops[q]? = some o := by simpa using ho
    have hon := hc q o hq ho' e he hb
    rcases h with h | ⟨h1, h2⟩
    · rw [h]; exact hon
    · exact ih e.on h1 p hon h2

theorem ready_mask {listed : Array Bool} (hc : ClosedL ops listed) {q p : Nat} (hq : q ∈ Region.ready .any ops listed) (hp : (mk ops q).testBit p = true) : listed.getD p false = true := by
  obtain ⟨_, o, ho, hall⟩ := mem_ready.1 hq
  obtain ⟨o', ho', e, he, hb, h⟩ := masksOf_ok hp
  have : o' = o := by have h' : ops[q]? = some o' := by simpa using ho'
                      rw [ho] at h'; exact (Option.some.inj h').symm
  subst this
  have hon := hall e he hb
  rcases h with h | ⟨h1, h2⟩
  · rw [h]; exact hon
  · exact closed_mask hc e.on p hon h2

theorem unlisted {listed : Array Bool} {i : Nat} (h : listed.getD i true = false) : listed.getD i false = false := by
  rcases Nat.lt_or_ge i listed.size with h' | h'
  · simp [h'] at h ⊢; exact h
  · simp [Array.getElem?_eq_none h'] at h

theorem closed_set {listed : Array Bool} (hc : ClosedL ops listed) {j : Nat} (hj : j ∈ Region.ready .any ops listed) : ClosedL ops (listed.setIfInBounds j true) := by
  intro m o hm ho e he hb
  obtain ⟨_, oj, hoj, hall⟩ := mem_ready.1 hj
  by_cases hmj : m = j
  · subst hmj
    rw [hoj] at ho
    simp at ho
    subst ho
    exact getD_set_true (hall e he hb)
  · rw [getD_set_ne false (Ne.symm hmj)] at hm
    exact getD_set_true (hc m o hm ho e he hb)

theorem wpAnyF_first {Q : FSt → Prop} {i : Nat} {oi : Oper} (hi : ops[i]? = some oi) :
    ∀ (fuel : Nat) (listed : Array Bool) (s s1 : FSt), ClosedL ops listed →
      (∀ j oj, ops[j]? = some oj → j ≠ i → listed.getD j true = false → (mk ops j).testBit i = true ∨ oi.apart ops oj = true) →
      i ∈ Region.ready .any ops listed → astep P Γ N (mkW vc ops) ops i s = some s1 →
      wpAnyF P Γ N vc ops Q fuel (listed.setIfInBounds i true) s1 → wpAnyF P Γ N vc ops Q (fuel + 1) listed s := by
  intro fuel
  induction fuel with
  | zero =>
    intro listed s s1 hc hfree hr hs H
    refine ⟨fun h => (by rw [h] at hr; cases hr), fun j hj => ?_⟩
    by_cases hji : j = i
    · subst hji; exact ⟨s1, hs, H⟩
    · have := ready_mono hj hji
      rw [H.1] at this
      cases this
  | succ fuel ih =>
    intro listed s s1 hc hfree hr hs H
    refine ⟨fun h => (by rw [h] at hr; cases hr), fun j hj => ?_⟩
    by_cases hji : j = i
    · subst hji; exact ⟨s1, hs, H⟩
    · obtain ⟨s2, hs2, H2⟩ := H.2 j (ready_mono hj hji)
      obtain ⟨hjun, oj, hoj, hall⟩ := mem_ready.1 hj
      have hiun := (mem_ready.1 hr).1
      have hij : (mk ops j).testBit i = false := by
        cases hq : (mk ops j).testBit i
        · rfl
        · have := ready_mask hc hj hq
          rw [unlisted hiun] at this
          simp at this
      have hji' : (mk ops i).testBit j = false := by
        cases hq : (mk ops i).testBit j
        · rfl
        · have := ready_mask hc hr hq
          rw [unlisted hjun] at this
          simp at this
      have hap := (hfree j oj hoj hji hjun).resolve_left (by rw [hij]; simp)
      obtain ⟨s3, h3, h4⟩ := astep_comm hi hoj (Ne.symm hji) hij hji' hap hs hs2
      refine ⟨s3, h3, ih (listed.setIfInBounds j true) s3 s2 (closed_set hc hj) (fun k ok hk hki hun => ?_) (ready_mono hr (Ne.symm hji)) h4 ?_⟩
      · refine hfree k ok hk hki ?_
        by_cases hjk : j = k
        · subst hjk; exact hjun
        · rw [getD_set_ne true hjk] at hun; exact hun
      · rw [Array.setIfInBounds_comm _ _ hji]
        exact H2

/-- The operations one behind the other. -/
def runF (P : Program) (Γ : FuncId → Option Ct) (N : Nat) (mask : Nat → Msk) (ops : Array Oper) : Nat → Nat → FSt → Option FSt
  | 0, _, s => some s
  | n + 1, k, s => match astep P Γ N mask ops k s with
    | some s' => runF P Γ N mask ops n (k + 1) s'
    | none => none

theorem wpAnyF_lex {Q : FSt → Prop} (hok : regOK ops.toList = true) : ∀ (n k : Nat) (listed : Array Bool) (s s' : FSt), k + n = ops.size → listed.size = ops.size → (∀ m, m < ops.size → listed.getD m false = decide (m < k)) →
    runF P Γ N (mkW vc ops) ops n k s = some s' → Q s' → wpAnyF P Γ N vc ops Q n listed s
  | 0, k, listed, s, s', hk, hl, hL, hr, hQ => by
    simp [runF] at hr
    subst hr
    refine ⟨?_, hQ⟩
    cases h : Region.ready .any ops listed with
    | nil => rfl
    | cons i r =>
      have hi : i ∈ Region.ready .any ops listed := by rw [h]; exact List.mem_cons_self ..
      obtain ⟨h1, o, ho, _⟩ := mem_ready.1 hi
      have hlt := (Array.getElem?_eq_some_iff.1 ho).1
      have := unlisted h1
      rw [hL i hlt] at this
      simp at this
      omega
  | n + 1, k, listed, s, s', hk, hl, hL, hr, hQ => by
    simp only [runF] at hr
    split at hr
    case h_2 => simp at hr
    rename_i s1 hs1
    have hklt : k < ops.size := by omega
    have hko : ops[k]? = some ops[k] := Array.getElem?_eq_getElem hklt
    simp only [regOK, Bool.and_eq_true] at hok
    obtain ⟨hedge, hpair⟩ := hok
    have hlist : ∀ {i : Nat} {o : Oper}, ops[i]? = some o → ops.toList[i]? = some o := fun h => by simpa using h
    have hclosed : ClosedL ops listed := by
      intro m o hm ho e he hb
      have h1 := edgesOK_ok _ _ _ _ hedge (hlist ho) e he hb
      have hmlt := (Array.getElem?_eq_some_iff.1 ho).1
      rw [hL m hmlt] at hm
      simp at hm
      rw [hL e.on (by omega)]
      simp
      omega
    have hready : k ∈ Region.ready .any ops listed := by
      rw [mem_ready]
      refine ⟨?_, _, hko, fun e he hb => ?_⟩
      · have := hL k hklt
        have hlt : k < listed.size := by omega
        simp [hlt] at this ⊢
        exact this
      · have h1 := edgesOK_ok _ _ _ _ hedge (hlist hko) e he hb
        rw [hL e.on (by omega)]
        simp
        omega
    refine wpAnyF_first hko n listed s s1 hclosed (fun j oj hj hjk hun => ?_) hready hs1 ?_
    · have hjlt := (Array.getElem?_eq_some_iff.1 hj).1
      have := unlisted hun
      rw [hL j hjlt] at this
      simp at this
      have hp := pairsOK_ok _ 0 _ _ _ _ hpair (hlist hko) (hlist hj) (by omega)
      simp only [Nat.zero_add, pairOK, Bool.or_eq_true, Array.toArray_toList] at hp
      exact hp
    · refine wpAnyF_lex (by simp only [regOK, Bool.and_eq_true]; exact ⟨hedge, hpair⟩) n (k + 1) _ s1 s' (by omega) (by simpa using hl) (fun m hm => ?_) hr hQ
      by_cases hmk : m = k
      · subst hmk
        simp [hl, hm]
      · rw [getD_set_ne false (Ne.symm hmk), hL m hm]
        simp
        omega
end

theorem listed_lt {n : Nat} {listed : Array Bool} {j : Nat} (hsz : listed.size = n) (h : listed.getD j false = true) : decide (j < n) = true := by
  rcases Nat.lt_or_ge j listed.size with h' | h'
  · simp; omega
  · simp [Array.getElem?_eq_none h'] at h

section
variable {P : Program} {Γ : FuncId → Option Ct} {N : Nat} {ops : Array Oper} {vc : Nat → Option Nat}

theorem wpAny_of_F (hΓ : GSound P Γ) {base : World} {ρ0 : Nat → Pl} {Q : FSt → Prop} {Q' : Exit → Act → World → Prop} (hQ : ∀ ρ a w s, Ext ρ0 ρ → Q s → RelF N base ρ a w s (fun j => decide (j < ops.size)) → Q' .normal a w) :
    ∀ (fuel : Nat) (listed : Array Bool) (s : FSt) (ρ : Nat → Pl) (a : Act) (w : World), Ext ρ0 ρ → listed.size = ops.size → RelF N base ρ a w s (fun j => listed.getD j false) → wpAnyF P Γ N vc ops Q fuel listed s → wpAny P .any ops Q' fuel listed a w
  | 0, listed, s, ρ, a, w, hx, hsz, hr, h => ⟨h.1, hQ ρ a w s hx h.2 ⟨hr.defers, hr.slots, hr.heap, hr.below, fun k hk hu => listed_lt hsz (hr.fresh k hk hu)⟩⟩
  | fuel + 1, listed, s, ρ, a, w, hx, hsz, hr, h => by
    refine ⟨fun h0 => hQ ρ a w s hx (h.1 h0) ⟨hr.defers, hr.slots, hr.heap, hr.below, fun k hk hu => listed_lt hsz (hr.fresh k hk hu)⟩, fun i hi => ?_⟩
    obtain ⟨s', h1, h2⟩ := h.2 i hi
    have hun := unlisted (mem_ready.1 hi).1
    refine astep_sound hΓ hr hun h1 fun ρ' a' w' hx' hr' => ?_
    refine wpAny_of_F hΓ hQ fuel _ s' ρ' a' w' (hx.trans hx') (by simpa using hsz) ⟨hr'.defers, hr'.slots, hr'.heap, hr'.below, fun k hk hu => ?_⟩ h2
    have := hr'.fresh k hk hu
    simp only [Bool.or_eq_true, beq_iff_eq] at this
    rcases this with e | e
    · rw [e]
      obtain ⟨hl, _⟩ := mem_ready.1 hi
      have : i < listed.size := by
        rcases Nat.lt_or_ge i listed.size with h' | h'
        · exact h'
        · simp [Array.getElem?_eq_none h'] at hl
      simp [this]
    · exact getD_set_true e

/-- A region that asks the tape. -/
theorem region_draw (hΓ : GSound P Γ) {base : World} {ρ : Nat → Pl} {a : Act} {w : World} {s s' : FSt} {id : Nat} {Q : Exit → Act → World → Prop} (hm : P.follows .mixedOrders = true) (hok : regOK ops.toList = true)
    (hr : RelF N base ρ a w s (fun _ => false)) (hs : runF P Γ N (mkW vc ops) ops ops.size 0 s = some s')
    (hQ : ∀ ρ' a w, Ext ρ ρ' → RelF N base ρ' a w s' (fun j => decide (j < ops.size)) → Q .normal a w) : (Code.region id ops true).wp P Q a w := by
  refine wp_region_any hm ?_
  refine wpAny_of_F hΓ (vc := vc) (N := N) (base := base) (ρ0 := ρ) (Q := fun t => t = s') (fun ρ a w s hx h hr => by subst h; exact hQ ρ a w hx hr) _ _ s ρ a _ (Ext.refl ρ) (by simp) ?_ ?_
  · refine ⟨hr.defers, hr.slots, hr.heap.drew, hr.below.drew, fun k hk hu => ?_⟩
    have := hr.fresh k hk hu
    simp at this
  · refine wpAnyF_lex hok ops.size 0 _ s s' (by omega) (by simp) (fun m hm => ?_) hs rfl
    simp [hm]

/-- A region in the order of the text. -/
theorem region_seq (hΓ : GSound P Γ) {base : World} {mask : Nat → Msk} {id : Nat} {Q : Exit → Act → World → Prop} {s' : FSt} {ρ : Nat → Pl}
    (hQ : ∀ ρ' a w, Ext ρ ρ' → RelF N base ρ' a w s' (fun j => decide (j < ops.size)) → Q .normal a w) {a : Act} {w : World} {s : FSt} (hr : RelF N base ρ a w s (fun _ => false)) (hs : runF P Γ N mask ops ops.size 0 s = some s') :
    (Code.region id ops false).wp P Q a w := by
  refine wp_region ?_
  have key : ∀ (n k : Nat) (ρ1 : Nat → Pl) (a : Act) (w : World) (s : FSt), Ext ρ ρ1 → k + n = ops.size → RelF N base ρ1 a w s (fun j => decide (j < k)) → runF P Γ N mask ops n k s = some s' → wpOps P ops Q (List.range' k n) a w := by
    intro n
    induction n with
    | zero =>
      intro k ρ1 a w s hx hk hr hs
      simp [runF] at hs
      subst hs
      exact hQ ρ1 a w hx ⟨hr.defers, hr.slots, hr.heap, hr.below, fun j hj hu => by have := hr.fresh j hj hu; simp at this ⊢; omega⟩
    | succ n ih =>
      intro k ρ1 a w s hx hk hr hs
      simp only [runF] at hs
      split at hs
      case h_2 => simp at hs
      rename_i s1 hs1
      rw [List.range'_succ, wpOps_cons]
      refine astep_sound hΓ hr (by simp) hs1 fun ρ' a' w' hx' hr' => ?_
      refine ih (k + 1) ρ' a' w' s1 (hx.trans hx') (by omega) ⟨hr'.defers, hr'.slots, hr'.heap, hr'.below, fun j hj hu => ?_⟩ hs
      have := hr'.fresh j hj hu
      simp at this ⊢
      omega
  rw [List.range_eq_range']
  exact key ops.size 0 ρ a w s (Ext.refl ρ) (by omega) ⟨hr.defers, hr.slots, hr.heap, hr.below, fun j hj hu => by have := hr.fresh j hj hu; simp at this⟩ hs
end
end Go.Ev
