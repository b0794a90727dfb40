/- Texts put together: EvM. Own work. -/
import Derived.Test.YtlgiaglbdifkpaaGreatDoorMgci
/- Functions: what they hand back, and their contract from what their code leaves. Own work; no statement of the seat is proved here. -/
namespace Go.Ev
open Go.RowKit

/-! ### What is handed back, as data -/
structure Use where
  k : Nat
  off : Nat
  len : Nat
  own : Bool

def outR : Bool → Row → IV
  | true, .i l => .dI l
  | true, .b l => .d8 l
  | true, .w l => .d32 l
  | true, .q l => .d64 l
  | true, .d x => .dN x
  | false, .b l => .r8 l
  | false, _ => .nil
def outOk : Bool → Row → Bool
  | true, _ => true
  | false, .b _ => true
  | false, _ => false

def outI (get : Nat → Option Blk) : IV → Option (IV × List Use)
  | .sl k off len =>
    match get k, rowOf get k off len with
    | some b, some r => let own := b.own && off == 0
      if b.own && outOk own r then some (outR own r, [⟨k, off, len, own⟩]) else none
    | _, _ => none
  | .ptr _ _ => none
  | .dI _ | .dN _ | .d8 _ | .d32 _ | .d64 _ | .dn _ | .r8 _ | .dsI _ | .ds8 _ => none
  | i => some (i, [])
def outL (get : Nat → Option Blk) : List IV → Option (List IV × List Use)
  | [] => some ([], [])
  | i :: r => match outI get i, outL get r with
    | some x, some l => some (x.1 :: l.1, x.2 ++ l.2)
    | _, _ => none
def outT (get : Nat → Option Blk) : List (Bool × List IV) → Option (List (Bool × List IV) × List Use)
  | [] => some ([], [])
  | p :: r => match outL get p.2, outT get r with
    | some x, some l => some ((p.1, x.1) :: l.1, x.2 ++ l.2)
    | _, _ => none
/-- A block of one's own is handed back once. -/
def usesOK : List Use → Bool
  | [] => true
  | u :: r => (r.all fun v => !(u.own || v.own) || !(u.k == v.k)) && usesOK r

def Use.place (ρ : Nat → Pl) (u : Use) : Pl :=
  match ρ u.k with
  | .at L => .at ⟨L.block, L.off + u.off, L.size - u.off⟩
  | p => p

def OutBlk (B : Nat) (w : World) (p : Pl) (own : Bool) (b : Blk) : Prop := ∀ (ρ : Nat → Pl) (k : Nat), ρ k = p → BlkOk B ρ w k b ∧ b.own = own

/-- One slice that is handed back. -/
theorem out_sl {B : Nat} {ρ : Nat → Pl} {w : World} {h get : Nat → Option Blk} (hh : HOk B ρ w h) (hg : ∀ k b, get k = some b → h k = some b) {k off len : Nat} {b : Blk} {r : Row} (hk : get k = some b) (hr : rowOf get k off len = some r) {own : Bool} (ho : own = (b.own && off == 0)) :
    OutBlk B w (Use.place ρ ⟨k, off, len, own⟩) own ⟨own, [r.item]⟩ ∧ r.len = len ∧ ∀ ρ' j v, ρ' j = Use.place ρ ⟨k, off, len, own⟩ → ICells ρ (.sl k off len) [v] → ICells ρ' (.sl j 0 len) [v] := by
  obtain ⟨h1, h2, h3⟩ := rowOf_ok hh hg hr
  refine ⟨fun ρ' j hj => ⟨?_, rfl⟩, h1, fun ρ' j v hj hv => ?_⟩
  · have hb := hh.blk k b (hg k b hk)
    cases hp : ρ k with
    | un => exact absurd hp h2
    | ph =>
      have hb' := hb
      simp only [Use.place, hp] at hj
      simp only [BlkOk, hj]
      have hus : LCells ρ b.items [] := by simpa only [BlkOk, hp] using hb
      have hvals : r.vals = [] := by
        unfold rowOf at hr
        simp only [hk] at hr
        split at hr
        case h_6 => simp at hr
        case h_4 =>
          rename_i x hit
          rw [hit] at hus
          have e := (vd_cells hus).symm
          simp at e
          split at hr
          · simp at hr
            subst hr
            simp [Row.vals, e]
          · split at hr <;> simp at hr
            subst hr
            simp [Row.vals, cutL, e]
        all_goals
          rename_i n l hit
          rw [hit] at hus
          have hl := LCells_of_single hus
          simp only [ICells, PCells] at hl
          split at hl <;> simp at hl
          subst hl
          split at hr <;> simp at hr
          subst hr
          simp [Row.vals, cutL]
      rw [← hvals]
      exact Row.item_cells r
    | _ =>
      rename_i L
      simp only [Use.place, hp] at hj
      simp only [BlkOk, hj]
      obtain ⟨vs, b', hb', hL', hrv, hle, hc⟩ := h3 L hp
      have : b' = b := by rw [hg k b hk] at hb'; simpa using hb'.symm
      subst this
      refine ⟨r.vals, Row.item_cells r, fun hown => ?_, fun _ => ⟨hb.size hp, hc⟩⟩
      subst ho
      simp only [Bool.and_eq_true, beq_iff_eq] at hown
      obtain ⟨ho1, ho2⟩ := hown
      subst ho2
      simp only [BlkOk, hp] at hb
      obtain ⟨us, hus, hb1, _⟩ := hb
      obtain ⟨e0, eB, cells, ty, hcell, hsz, hlen, htake⟩ := hb1 ho1
      have e := (LCells_length hus).trans (LCells_length hL').symm
      have hus' : us = vs := by
        unfold rowOf at hr
        simp only [hk] at hr
        split at hr
        case h_6 => simp at hr
        case h_4 =>
          rename_i x hit
          rw [hit] at hus hL'
          rw [vd_cells hus, vd_cells hL']
        all_goals
          rename_i n l hit
          rw [hit] at hus hL'
          have q1 := LCells_of_single hus
          have q2 := LCells_of_single hL'
          simp only [ICells, PCells] at q1 q2
          split at q1 <;> simp at q1
          rename_i hn
          rw [if_pos hn] at q2
          simp at q2
          rw [← q1, ← q2]
      subst hus'
      refine ⟨by simp [e0], eB, cells, ty, hcell, by simp [hsz], ?_, ?_⟩
      · rw [hrv]; simp; omega
      · rw [hrv]
        simp only [List.drop_zero, List.length_take]
        rw [← htake]
        simp only [List.take_take, List.length_take, Array.length_toList]
        congr 1
        omega
  · rcases hv with ⟨L, cap, hL, hc1, hc2, e⟩ | ⟨h0, hun, a, e⟩
    · simp only [Use.place, hL] at hj
      refine .inl ⟨_, cap, hj, hc1, by simp; omega, by simpa using e⟩
    · refine .inr ⟨h0, ?_, a, e⟩
      rw [hj]
      unfold Use.place
      cases hp : ρ k <;> simp [hp] at hun ⊢

/-- How results are laid: each use has a number of its own. -/
structure LaidI (B : Nat) (w : World) (ρ : Nat → Pl) (vs : List Value) (F : Nat) (o : List IV × List (Nat × Blk) × Nat) (us : List Use) : Prop where
  next : o.2.2 = F + us.length
  cells : ∀ ρ' : Nat → Pl, (∀ i u, us[i]? = some u → ρ' (F + i) = u.place ρ) → LCells ρ' o.1 vs
  blks : ∀ p ∈ o.2.1, ∃ i u, us[i]? = some u ∧ p.1 = F + i ∧ OutBlk B w (u.place ρ) u.own p.2

theorem out_list {B : Nat} {ρ : Nat → Pl} {w : World} {h get : Nat → Option Blk} (hh : HOk B ρ w h) (hg : ∀ k b, get k = some b → h k = some b) : ∀ (l m : List IV) (us : List Use) (vs : List Value) (F : Nat), outL get l = some (m, us) → LCells ρ l vs → LaidI B w ρ vs F (ofIs F m) us := by
  intro l
  induction l with
  | nil =>
    intro m us vs F ho hL
    simp [outL] at ho
    obtain ⟨rfl, rfl⟩ := ho
    exact ⟨rfl, fun _ _ => hL, fun p hp => by simp [ofIs] at hp⟩
  | cons i l ih =>
    intro m us vs F ho hL
    simp only [outL] at ho
    split at ho
    case h_2 => simp at ho
    rename_i x q hx hq
    simp at ho
    obtain ⟨rfl, rfl⟩ := ho
    obtain ⟨a, b, rfl, ha, hb⟩ := hL
    have plain : ∀ j, x = (j, []) → PCells j = some a → ofIs F (j :: q.1) = (j :: (ofIs F q.1).1, (ofIs F q.1).2.1, (ofIs F q.1).2.2) → LaidI B w ρ (a ++ b) F (ofIs F (x.1 :: q.1)) (x.2 ++ q.2) := by
      rintro j rfl hp he
      obtain ⟨r1, r2, r3⟩ := ih q.1 q.2 b F hq hb
      rw [he]
      exact ⟨r1, fun ρ' hρ => ⟨a, b, rfl, ICells_of_P hp, r2 ρ' hρ⟩, r3⟩
    cases i
    case sl k off len =>
      simp only [outI] at hx
      split at hx
      case h_2 => simp at hx
      rename_i bk r hbk hr
      split at hx <;> simp at hx
      rename_i hok
      simp only [Bool.and_eq_true] at hok
      replace hok := hok.2
      subst hx
      obtain ⟨v, rfl⟩ := list_len1 (ICells_length ha)
      obtain ⟨o1, o2, o3⟩ := out_sl hh hg hbk hr rfl
      obtain ⟨r1, r2, r3⟩ := ih q.1 q.2 b (F + 1) hq hb
      have he : ofIs F (outR (bk.own && off == 0) r :: q.1) = (.sl F 0 len :: (ofIs (F + 1) q.1).1, (F, ⟨(bk.own && off == 0), [r.item]⟩) :: (ofIs (F + 1) q.1).2.1, (ofIs (F + 1) q.1).2.2) := by
        rw [← o2]
        cases hb : (bk.own && off == 0) <;> rw [hb] at hok <;> cases r <;> simp [outOk] at hok <;> simp [outR, ofIs, Row.item, Row.len]
      show LaidI B w ρ ([v] ++ b) F (ofIs F (outR (bk.own && off == 0) r :: q.1)) _
      rw [he]
      refine ⟨by simp [r1]; omega, fun ρ' hρ => ⟨[v], b, rfl, o3 ρ' F v (by have := hρ 0 _ rfl; simpa using this) ha, r2 ρ' fun i u hu => ?_⟩, fun p hp => ?_⟩
      · have := hρ (i + 1) u (by simpa using hu)
        rw [← this]
        congr 1
        omega
      · rcases List.mem_cons.1 hp with rfl | hp
        · exact ⟨0, _, rfl, rfl, o1⟩
        · obtain ⟨i, u, h1, h2, h3⟩ := r3 p hp
          exact ⟨i + 1, u, by simpa using h1, by omega, h3⟩
    case ptr => simp [outI] at hx
    all_goals first | (simp [outI] at hx; done) | (simp only [outI, Option.some.injEq] at hx; exact plain _ hx.symm ha rfl)

structure LaidT (B : Nat) (w : World) (ρ : Nat → Pl) (vs : List Value) (F : Nat) (o : List (Bool × List IV) × List (Nat × Blk) × Nat) (us : List Use) : Prop where
  next : o.2.2 = F + us.length
  cells : ∀ ρ' : Nat → Pl, (∀ i u, us[i]? = some u → ρ' (F + i) = u.place ρ) → F2 (VR1 ρ') o.1 vs
  blks : ∀ p ∈ o.2.1, ∃ i u, us[i]? = some u ∧ p.1 = F + i ∧ OutBlk B w (u.place ρ) u.own p.2

theorem out_tup {B : Nat} {ρ : Nat → Pl} {w : World} {h get : Nat → Option Blk} (hh : HOk B ρ w h) (hg : ∀ k b, get k = some b → h k = some b) : ∀ (l m : List (Bool × List IV)) (us : List Use) (vs : List Value) (F : Nat), outT get l = some (m, us) → F2 (VR1 ρ) l vs → LaidT B w ρ vs F (ofTs F m) us := by
  intro l
  induction l with
  | nil =>
    intro m us vs F ho hL
    simp [outT] at ho
    obtain ⟨rfl, rfl⟩ := ho
    match vs, hL with
    | [], _ => exact ⟨rfl, fun _ _ => trivial, fun p hp => by simp [ofTs] at hp⟩
  | cons i l ih =>
    intro m us vs F ho hL
    match vs, hL with
    | v :: vs, ⟨hv, hL⟩ =>
    simp only [outT] at ho
    split at ho
    case h_2 => simp at ho
    rename_i x q hx hq
    simp at ho
    obtain ⟨rfl, rfl⟩ := ho
    obtain ⟨cs, hcs, hg1⟩ := hv
    obtain ⟨a1, a2, a3⟩ := out_list hh hg i.2 x.1 x.2 cs F hx hcs
    obtain ⟨r1, r2, r3⟩ := ih q.1 q.2 vs (ofIs F x.1).2.2 hq hL
    rw [a1] at r1 r2 r3
    simp only [ofTs]
    rw [a1]
    refine ⟨by simp [r1]; omega, fun ρ' hρ => ⟨⟨cs, a2 ρ' fun i u hu => hρ i u ?_, hg1⟩, r2 ρ' fun i u hu => ?_⟩, fun p hp => ?_⟩
    · rw [List.getElem?_append_left (List.getElem?_eq_some_iff.1 hu).1]; exact hu
    · rw [Nat.add_assoc]
      exact hρ (x.2.length + i) u (by rw [List.getElem?_append_right (by omega)]; simpa using hu)
    · rcases List.mem_append.1 hp with hp | hp
      · obtain ⟨i, u, h1, h2, h3⟩ := a3 p hp
        exact ⟨i, u, by rw [List.getElem?_append_left (List.getElem?_eq_some_iff.1 h1).1]; exact h1, h2, h3⟩
      · obtain ⟨i, u, h1, h2, h3⟩ := r3 p hp
        exact ⟨x.2.length + i, u, by rw [List.getElem?_append_right (by omega)]; simpa using h1, by omega, h3⟩

theorem lookB_mem : ∀ (bs : List (Nat × Blk)) (h : Nat → Option Blk) (k : Nat) (b : Blk), applyU h (mkU bs) k = some b → (k, b) ∈ bs ∨ h k = some b
  | [], _, _, _, h => .inr h
  | p :: r, h, k, b, hk => by
    rcases lookB_mem r (updh h p.1 (some p.2)) k b hk with h1 | h1
    · exact .inl (List.mem_cons_of_mem _ h1)
    · unfold updh at h1
      split at h1
      · rename_i e; simp at h1; subst h1; subst e; exact .inl (List.mem_cons_self ..)
      · exact .inr h1

theorem usesOK_get : ∀ {us : List Use}, usesOK us = true → ∀ {i j : Nat} {u v : Use}, us[i]? = some u → us[j]? = some v → i ≠ j → (u.own = true ∨ v.own = true) → u.k ≠ v.k := by
  intro us
  induction us with
  | nil => intro _ i j u v hi; simp at hi
  | cons x r ih =>
    intro h i j u v hi hj hne ho
    simp only [usesOK, Bool.and_eq_true, List.all_eq_true] at h
    have hx : ∀ {v : Use}, v ∈ r → (x.own = true ∨ v.own = true) → x.k ≠ v.k := by
      intro v hv ho e
      have := h.1 v hv
      rcases ho with ho | ho <;> simp [ho, e] at this
    cases i with
    | zero =>
      cases j with
      | zero => omega
      | succ j => simp at hi hj; subst hi; exact hx (List.mem_of_getElem? hj) ho
    | succ i =>
      cases j with
      | zero => simp at hi hj; subst hj; exact fun e => hx (List.mem_of_getElem? hi) ho.symm e.symm
      | succ j => exact ih h.2 (by simpa using hi) (by simpa using hj) (by omega) ho

/-- Every use's block, with its mark. -/
theorem out_uses {get : Nat → Option Blk} : ∀ (l m : List IV) (us : List Use), outL get l = some (m, us) → ∀ u ∈ us, ∃ b, get u.k = some b ∧ b.own = true := by
  intro l
  induction l with
  | nil => intro m us h u hu; simp [outL] at h; obtain ⟨rfl, rfl⟩ := h; simp at hu
  | cons i l ih =>
    intro m us h u hu
    simp only [outL] at h
    split at h
    case h_2 => simp at h
    rename_i x q hx hq
    simp at h
    obtain ⟨rfl, rfl⟩ := h
    rcases List.mem_append.1 hu with hu | hu
    · cases i
      case sl k off len =>
        simp only [outI] at hx
        split at hx
        case h_2 => simp at hx
        rename_i bk r hbk hr
        split at hx <;> simp at hx
        rename_i hok
        simp only [Bool.and_eq_true] at hok
        subst hx
        simp at hu
        subst hu
        exact ⟨bk, hbk, hok.1⟩
      all_goals first | (simp [outI] at hx; done) | (simp only [outI, Option.some.injEq] at hx; subst hx; simp at hu)
    · exact ih q.1 q.2 hq u hu
theorem outT_uses {get : Nat → Option Blk} : ∀ (l m : List (Bool × List IV)) (us : List Use), outT get l = some (m, us) → ∀ u ∈ us, ∃ b, get u.k = some b ∧ b.own = true := by
  intro l
  induction l with
  | nil => intro m us h u hu; simp [outT] at h; obtain ⟨rfl, rfl⟩ := h; simp at hu
  | cons i l ih =>
    intro m us h u hu
    simp only [outT] at h
    split at h
    case h_2 => simp at h
    rename_i x q hx hq
    simp at h
    obtain ⟨rfl, rfl⟩ := h
    rcases List.mem_append.1 hu with hu | hu
    · exact out_uses _ _ _ hx u hu
    · exact ih q.1 q.2 hq u hu

/-- Items with the same cells. -/
def LSame (l m : List IV) : Prop := ∀ (ρ : Nat → Pl) (vs : List Value), LCells ρ l vs → LCells ρ m vs
def TSame (l m : List (Bool × List IV)) : Prop := F2 (fun p q => p.1 = q.1 ∧ LSame p.2 q.2) l m
theorem LSame.rfl' {l : List IV} : LSame l l := fun _ _ h => h
theorem TSame.rfl' : ∀ {l : List (Bool × List IV)}, TSame l l
  | [] => trivial
  | _ :: _ => ⟨⟨rfl, LSame.rfl'⟩, TSame.rfl'⟩
theorem TSame.ok {ρ : Nat → Pl} : ∀ {l m : List (Bool × List IV)} {vs : List Value}, TSame l m → F2 (VR1 ρ) l vs → F2 (VR1 ρ) m vs
  | [], [], _, _, h => h
  | p :: l, q :: m, v :: vs, ⟨⟨h1, h2⟩, h3⟩, ⟨⟨cs, c1, c2⟩, h5⟩ => ⟨⟨cs, h2 ρ cs c1, by rw [← h1]; exact c2⟩, TSame.ok h3 h5⟩

/-- WHAT A STATE HANDS BACK. -/
def Gives (P : Program) (res : List ResultVar) (σ : St) (r : AV) : Prop :=
  ∃ m m' o us, ares P σ res = some m ∧ TSame m m' ∧ outT (hget σ.heap) m' = some (o, us) ∧ usesOK us = true ∧ aresV o = r

theorem results_run {P : Program} {fn : Func} {tmps : Array Value} {w : World} {vs : List Value} (h : (fn.results.toList.mapM (oneRes tmps)).run P w = .ok vs w) :
    (results fn tmps).run P w = .ok (if h : vs.length = 1 then vs[0] else .tuple vs.toArray) w := by
  have e : fn.results = fn.results.toList.toArray := by simp
  have : (results fn tmps) = ((Functor.map List.toArray (fn.results.toList.mapM (oneRes tmps))) >>= fun vs => pure (if h : vs.size = 1 then vs[0] else .tuple vs)) := by
    unfold results
    rw [e, List.mapM_toArray]
    rfl
  rw [this, map_eq_pure_bind]
  simp only [Sem.run_bind, h, Result.andThen_ok, Sem.run_pure, List.size_toArray]
  rfl

theorem gives_ok {P : Program} {fn : Func} {σ : St} {base : World} {ρ : Nat → Pl} {a : Act} {w : World} {r : AV} (hr : Rel base σ ρ a w) (hg : Gives P fn.results.toList σ r) :
    ∃ v, (results fn a.tmps).run P w = .ok v w ∧ ResOk base.heap.size w r v := by
  obtain ⟨m, m', o, us, h1, h2, h3, h4, rfl⟩ := hg
  obtain ⟨vs, hrun, hvs⟩ := ares_ok hr _ m h1
  have hvs' := TSame.ok h2 hvs
  refine ⟨_, results_run hrun, fun F => ?_⟩
  have hh : HOk base.heap.size ρ w (hget σ.heap) := hr.heap
  obtain ⟨l1, l2, l3⟩ := out_tup hh (fun _ _ h => h) m' o us vs F h3 hvs'
  let ρ' : Nat → Pl := fun j => if F ≤ j then match us[j - F]? with | some u => u.place ρ | none => .un else .un
  have hρ : ∀ i u, us[i]? = some u → ρ' (F + i) = u.place ρ := fun i u hu => by
    show (if F ≤ F + i then _ else _) = _
    rw [if_pos (by omega), Nat.add_sub_cancel_left, hu]
  have hρ' : ∀ k, ρ' k ≠ .un → F ≤ k ∧ ∃ u, us[k - F]? = some u ∧ ρ' k = u.place ρ := by
    intro k hk
    by_cases hF : F ≤ k
    · have hk' : ρ' k = match us[k - F]? with | some u => u.place ρ | none => .un := if_pos hF
      cases hu : us[k - F]? with
      | none => rw [hu] at hk'; exact absurd hk' hk
      | some u => rw [hu] at hk'; exact ⟨hF, u, rfl, hk'⟩
    · exact absurd (if_neg hF) hk
  have hof : (ofA F (aresV o)).2.2 = F + us.length ∧ (lookB (ofA F (aresV o)).2.1 = lookB (ofTs F o).2.1) ∧ (VRepr ρ' (ofA F (aresV o)).1 (if h : vs.length = 1 then vs[0] else .tuple vs.toArray)) := by
    have hc := l2 ρ' hρ
    have hlen := hc.length
    match o, l1, hc, hlen with
    | [], l1, hc, hlen =>
      match vs, hc with
      | [], hc => exact ⟨l1, rfl, [], rfl, hc⟩
    | [p], l1, hc, hlen =>
      match vs, hc with
      | [v], hc =>
        refine ⟨by simpa [ofTs, aresV, ofA] using l1, by simp [ofTs, aresV, ofA], ?_⟩
        exact hc.1
    | p :: q :: t, l1, hc, hlen =>
      match vs, hc with
      | v :: u :: s, hc => exact ⟨l1, rfl, v :: u :: s, by simp, hc⟩
  obtain ⟨hof1, hof2, hof3⟩ := hof
  have hmem : ∀ (i : Nat) (u : Use), us[i]? = some u → ∃ b, hget σ.heap u.k = some b ∧ b.own = true := fun i u hu => outT_uses m' o us h3 u (List.mem_of_getElem? hu)
  have hblock : ∀ {i : Nat} {u : Use} {L : Loc}, us[i]? = some u → u.place ρ = .at L → ∃ L' b, ρ u.k = .at L' ∧ L'.block = L.block ∧ hget σ.heap u.k = some b ∧ b.own = true ∧ base.heap.size ≤ L.block := by
    intro i u L hu hp
    obtain ⟨b, hb, ho⟩ := hmem i u hu
    unfold Use.place at hp
    split at hp
    · rename_i L' hL'
      simp at hp
      subst hp
      have := hh.blk u.k b hb
      simp only [BlkOk, hL'] at this
      obtain ⟨_, _, q, _⟩ := this
      exact ⟨L', b, hL', rfl, hb, ho, (q ho).2.1⟩
    · rename_i hne; exact absurd hp (hne L)
  refine ⟨ρ', fun k hk => ?_, fun k L hk => ?_, hof3, ?_⟩
  · obtain ⟨hF, u, hu, _⟩ := hρ' k hk
    have := (List.getElem?_eq_some_iff.1 hu).1
    omega
  · obtain ⟨hF, u, hu, e⟩ := hρ' k (by rw [hk]; simp)
    rw [hk] at e
    obtain ⟨_, _, _, _, _, _, h⟩ := hblock hu e.symm
    exact h
  · have hlook : ∀ k b, lookB (ofA F (aresV o)).2.1 k = some b → (k, b) ∈ (ofTs F o).2.1 := by
      intro k b hk
      rw [hof2] at hk
      rcases lookB_mem _ _ k b hk with h | h
      · exact h
      · simp at h
    refine ⟨fun k b hk => ?_, fun k k' b b' hk hk' hne ho L L' hL hL' => ?_⟩
    · obtain ⟨i, u, hu, e, hb⟩ := l3 _ (hlook k b hk)
      simp at e
      subst e
      exact (hb ρ' _ (hρ i u hu)).1
    · obtain ⟨i, u, hu, e, hb⟩ := l3 _ (hlook k b hk)
      obtain ⟨j, v, hv, e', hb'⟩ := l3 _ (hlook k' b' hk')
      simp at e e'
      subst e e'
      have hno := usesOK_get h4 hu hv (by omega) (.inl ((hb ρ' _ (hρ i u hu)).2.symm.trans ho))
      rw [hρ i u hu] at hL
      rw [hρ j v hv] at hL'
      obtain ⟨M, c, q1, q2, q3, q4, _⟩ := hblock hu hL
      obtain ⟨M', c', q1', q2', q3', _, _⟩ := hblock hv hL'
      rw [← q2, ← q2']
      exact hh.inj u.k v.k c c' q3 q3' hno q4 M M' q1 q1'

/-- THE CONTRACT OF A FUNCTION, from what its code leaves. -/
theorem calls_of_T {P : Program} {f : FuncId} {fn : Func} {c : Code} {ds : List AV} {r : AV} (hf : P.funcs[f]? = some fn) (hb : fn.body = some c)
    (h : T P c (entry fn.ntmps ds) fun e σ => (e = .normal ∨ e = .ret) ∧ Gives P fn.results.toList σ r) (w : World) (vals : List Value) (hv : F2 (DV w) ds vals) :
    CallsG P f vals.toArray w fun e w' => ∃ v, e = .returned v ∧ Below w.heap.size w w' ∧ ResOk w.heap.size w' r v := by
  intro hG
  obtain ⟨ρ, hr⟩ := entry_rel fn.ntmps hG hv
  refine calls_of_wp hf hb ?_
  have hsz : vals.toArray.size = vals.length := by simp
  rw [hsz]
  refine wp_mono (h w ρ _ w hr) ?_
  rintro e a' w' ⟨σ', ρ', ⟨he, hgv⟩, hr'⟩
  obtain ⟨v, h1, h2⟩ := gives_ok hr' hgv
  rcases he with rfl | rfl
  · exact ⟨hr'.defers, v, h1, v, rfl, hr'.below.b, h2⟩
  · exact ⟨hr'.defers, v, h1, v, rfl, hr'.below.b, h2⟩

end Go.Ev
