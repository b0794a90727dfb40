/- Texts put together: EvM EvN. Own work. -/
import Derived.Test.YtpeplakhcgaajaaMgai
import Derived.ProofKit
import Derived.OpenShut
import Derived.SizedLaws
/- Functions: what they hand back, and their contract from what their code leaves. Own work; no statement of the seat is proved here. -/
namespace Go.Ev
open Go.RowKit

/-! ### What is handed back, as data -/
structure Use where
  k : Nat
  off : Nat
  len : Nat
  own : Bool

def outR : Bool → Row → IV
  | true, .i l => .dI l
  | true, .b l => .d8 l
  | true, .w l => .d32 l
  | true, .d x => .dN x
  | false, .b l => .r8 l
  | false, _ => .nil
def outOk : Bool → Row → Bool
  | true, _ => true
  | false, .b _ => true
  | false, _ => false

def outI (get : Nat → Option Blk) : IV → Option (IV × List Use)
  | .sl k off len =>
    match get k, rowOf get k off len with
    | some b, some r => let own := b.own && off == 0
      if b.own && outOk own r then some (outR own r, [⟨k, off, len, own⟩]) else none
    | _, _ => none
  | .ptr _ _ => none
  | .dI _ | .dN _ | .d8 _ | .d32 _ | .dn _ | .r8 _ | .dsI _ | .ds8 _ => none
  | i => some (i, [])
def outL (get : Nat → Option Blk) : List IV → Option (List IV × List Use)
  | [] => some ([], [])
  | i :: r => match outI get i, outL get r with
    | some x, some l => some (x.1 :: l.1, x.2 ++ l.2)
    | _, _ => none
def outT (get : Nat → Option Blk) : List (Bool × List IV) → Option (List (Bool × List IV) × List Use)
  | [] => some ([], [])
  | p :: r => match outL get p.2, outT get r with
    | some x, some l => some ((p.1, x.1) :: l.1, x.2 ++ l.2)
    | _, _ => none
/-- A block of one's own is handed back once. -/
def usesOK : List Use → Bool
  | [] => true
  | u :: r => (r.all fun v => !(u.own || v.own) || !(u.k == v.k)) && usesOK r

def Use.place (ρ : Nat → Pl) (u : Use) : Pl :=
  match ρ u.k with
  | .at L => .at ⟨L.block, L.off + u.off, L.size - u.off⟩
  | p => p

def OutBlk (B : Nat) (w : World) (p : Pl) (own : Bool) (b : Blk) : Prop := ∀ (ρ : Nat → Pl) (k : Nat), ρ k = p → BlkOk B ρ w k b ∧ b.own = own

/-- One slice that is handed back. -/
theorem out_sl {B : Nat} {ρ : Nat → Pl} {w : World} {h get : Nat → Option Blk} (hh : HOk B ρ w h) (hg : ∀ k b, get k = some b → h k = some b) {k off len : Nat} {b : Blk} {r : Row} (hk : get k = some b) (hr : rowOf get k off len = some r) {own : Bool} (ho : own = (b.own && off == 0)) :
    OutBlk B w (Use.place ρ ⟨k, off, len, own⟩) own ⟨own, [r.item]⟩ ∧ r.len = len ∧ ∀ ρ' j v, ρ' j = Use.place ρ ⟨k, off, len, own⟩ → ICells ρ (.sl k off len) [v] → ICells ρ' (.sl j 0 len) [v] := by
  obtain ⟨h1, h2, h3⟩ := rowOf_ok hh hg hr
  refine ⟨fun ρ' j hj => ⟨?_, rfl⟩, h1, fun ρ' j v hj hv => ?_⟩
  · have hb := hh.blk k b (hg k b hk)
    cases hp : ρ k with
    | un => exact absurd hp h2
    | ph =>
      have hb' := hb
      simp only [Use.place, hp] at hj
      simp only [BlkOk, hj]
      have hus : LCells ρ b.items [] := by simpa only [BlkOk, hp] using hb
      have hvals : r.vals = [] := by
        unfold rowOf at hr
        simp only [hk] at hr
        split at hr
        case h_5 => simp at hr
        case h_4 =>
          rename_i x hit
          rw [hit] at hus
          have e := (vd_cells hus).symm
          simp at e
          split at hr
          · simp at hr
            subst hr
            simp [Row.vals, e]
          · split at hr <;> simp at hr
            subst hr
            simp [Row.vals, cutL, e]
        all_goals
          rename_i n l hit
          rw [hit] at hus
          have hl := LCells_of_single hus
          simp only [ICells, PCells] at hl
          split at hl <;> simp at hl
          subst hl
          split at hr <;> simp at hr
          subst hr
          simp [Row.vals, cutL]
      rw [← hvals]
      exact Row.item_cells r
    | _ =>
      rename_i L
      simp only [Use.place, hp] at hj
      simp only [BlkOk, hj]
      obtain ⟨vs, b', hb', hL', hrv, hle, hc⟩ := h3 L hp
      have : b' = b := by rw [hg k b hk] at hb'; simpa using hb'.symm
      subst this
      refine ⟨r.vals, Row.item_cells r, fun hown => ?_, fun _ => ⟨hb.size hp, hc⟩⟩
      subst ho
      simp only [Bool.and_eq_true, beq_iff_eq] at hown
      obtain ⟨ho1, ho2⟩ := hown
      subst ho2
      simp only [BlkOk, hp] at hb
      obtain ⟨us, hus, hb1, _⟩ := hb
      obtain ⟨e0, eB, cells, ty, hcell, hsz, hlen, htake⟩ := hb1 ho1
      have e := (LCells_length hus).trans (LCells_length hL').symm
      have hus' : us = vs := by
        unfold rowOf at hr
        simp only [hk] at hr
        split at hr
        case h_5 => simp at hr
        case h_4 =>
          rename_i x hit
          rw [hit] at hus hL'
          rw [vd_cells hus, vd_cells hL']
        all_goals
          rename_i n l hit
          rw [hit] at hus hL'
          have q1 := LCells_of_single hus
          have q2 := LCells_of_single hL'
          simp only [ICells, PCells] at q1 q2
          split at q1 <;> simp at q1
          rename_i hn
          rw [if_pos hn] at q2
          simp at q2
          rw [← q1, ← q2]
      subst hus'
      refine ⟨by simp [e0], eB, cells, ty, hcell, by simp [hsz], ?_, ?_⟩
      · rw [hrv]; simp; omega
      · rw [hrv]
        simp only [List.drop_zero, List.length_take]
        rw [← htake]
        simp only [List.take_take, List.length_take, Array.length_toList]
        congr 1
        omega
  · rcases hv with ⟨L, cap, hL, hc1, hc2, e⟩ | ⟨h0, hun, a, e⟩
    · simp only [Use.place, hL] at hj
      refine .inl ⟨_, cap, hj, hc1, by simp; omega, by simpa using e⟩
    · refine .inr ⟨h0, ?_, a, e⟩
      rw [hj]
      unfold Use.place
      cases hp : ρ k <;> simp [hp] at hun ⊢

/-- How results are laid: each use has a number of its own. -/
structure LaidI (B : Nat) (w : World) (ρ : Nat → Pl) (vs : List Value) (F : Nat) (o : List IV × List (Nat × Blk) × Nat) (us : List Use) : Prop where
  next : o.2.2 = F + us.length
  cells : ∀ ρ' : Nat → Pl, (∀ i u, us[i]? = some u → ρ' (F + i) = u.place ρ) → LCells ρ' o.1 vs
  blks : ∀ p ∈ o.2.1, ∃ i u, us[i]? = some u ∧ p.1 = F + i ∧ OutBlk B w (u.place ρ) u.own p.2

theorem out_list {B : Nat} {ρ : Nat → Pl} {w : World} {h get : Nat → Option Blk} (hh : HOk B ρ w h) (hg : ∀ k b, get k = some b → h k = some b) : ∀ (l m : List IV) (us : List Use) (vs : List Value) (F : Nat), outL get l = some (m, us) → LCells ρ l vs → LaidI B w ρ vs F (ofIs F m) us := by
  intro l
  induction l with
  | nil =>
    intro m us vs F ho hL
    simp [outL] at ho
    obtain ⟨rfl, rfl⟩ := ho
    exact ⟨rfl, fun _ _ => hL, fun p hp => by simp [ofIs] at hp⟩
  | cons i l ih =>
    intro m us vs F ho hL
    simp only [outL] at ho
    split at ho
    case h_2 => simp at ho
    rename_i x q hx hq
    simp at ho
    obtain ⟨rfl, rfl⟩ := ho
    obtain ⟨a, b, rfl, ha, hb⟩ := hL
    have plain : ∀ j, x = (j, []) → PCells j = some a → ofIs F (j :: q.1) = (j :: (ofIs F q.1).1, (ofIs F q.1).2.1, (ofIs F q.1).2.2) → LaidI B w ρ (a ++ b) F (ofIs F (x.1 :: q.1)) (x.2 ++ q.2) := by
      rintro j rfl hp he
      obtain ⟨r1, r2, r3⟩ := ih q.1 q.2 b F hq hb
      rw [he]
      exact ⟨r1, fun ρ' hρ => ⟨a, b, rfl, ICells_of_P hp, r2 ρ' hρ⟩, r3⟩
    cases i
    case sl k off len =>
      simp only [outI] at hx
      split at hx
      case h_2 => simp at hx
      rename_i bk r hbk hr
      split at hx <;> simp at hx
      rename_i hok
      simp only [Bool.and_eq_true] at hok
      replace hok := hok.2
      subst hx
      obtain ⟨v, rfl⟩ := list_len1 (ICells_length ha)
      obtain ⟨o1, o2, o3⟩ := out_sl hh hg hbk hr rfl
      obtain ⟨r1, r2, r3⟩ := ih q.1 q.2 b (F + 1) hq hb
      have he : ofIs F (outR (bk.own && off == 0) r :: q.1) = (.sl F 0 len :: (ofIs (F + 1) q.1).1, (F, ⟨(bk.own && off == 0), [r.item]⟩) :: (ofIs (F + 1) q.1).2.1, (ofIs (F + 1) q.1).2.2) := by
        rw [← o2]
        cases hb : (bk.own && off == 0) <;> rw [hb] at hok <;> cases r <;> simp [outOk] at hok <;> simp [outR, ofIs, Row.item, Row.len]
      show LaidI B w ρ ([v] ++ b) F (ofIs F (outR (bk.own && off == 0) r :: q.1)) _
      rw [he]
      refine ⟨by simp [r1]; omega, fun ρ' hρ => ⟨[v], b, rfl, o3 ρ' F v (by have := hρ 0 _ rfl; simpa using this) ha, r2 ρ' fun i u hu => ?_⟩, fun p hp => ?_⟩
      · have := hρ (i + 1) u (by simpa using hu)
        rw [← this]
        congr 1
        omega
      · rcases List.mem_cons.1 hp with rfl | hp
        · exact ⟨0, _, rfl, rfl, o1⟩
        · obtain ⟨i, u, h1, h2, h3⟩ := r3 p hp
          exact ⟨i + 1, u, by simpa using h1, by omega, h3⟩
    case ptr => simp [outI] at hx
    all_goals first | (simp [outI] at hx; done) | (simp only [outI, Option.some.injEq] at hx; exact plain _ hx.symm ha rfl)

structure LaidT (B : Nat) (w : World) (ρ : Nat → Pl) (vs : List Value) (F : Nat) (o : List (Bool × List IV) × List (Nat × Blk) × Nat) (us : List Use) : Prop where
  next : o.2.2 = F + us.length
  cells : ∀ ρ' : Nat → Pl, (∀ i u, us[i]? = some u → ρ' (F + i) = u.place ρ) → F2 (VR1 ρ') o.1 vs
  blks : ∀ p ∈ o.2.1, ∃ i u, us[i]? = some u ∧ p.1 = F + i ∧ OutBlk B w (u.place ρ) u.own p.2

theorem out_tup {B : Nat} {ρ : Nat → Pl} {w : World} {h get : Nat → Option Blk} (hh : HOk B ρ w h) (hg : ∀ k b, get k = some b → h k = some b) : ∀ (l m : List (Bool × List IV)) (us : List Use) (vs : List Value) (F : Nat), outT get l = some (m, us) → F2 (VR1 ρ) l vs → LaidT B w ρ vs F (ofTs F m) us := by
  intro l
  induction l with
  | nil =>
    intro m us vs F ho hL
    simp [outT] at ho
    obtain ⟨rfl, rfl⟩ := ho
    match vs, hL with
    | [], _ => exact ⟨rfl, fun _ _ => trivial, fun p hp => by simp [ofTs] at hp⟩
  | cons i l ih =>
    intro m us vs F ho hL
    match vs, hL with
    | v :: vs, ⟨hv, hL⟩ =>
    simp only [outT] at ho
    split at ho
    case h_2 => simp at ho
    rename_i x q hx hq
    simp at ho
    obtain ⟨rfl, rfl⟩ := ho
    obtain ⟨cs, hcs, hg1⟩ := hv
    obtain ⟨a1, a2, a3⟩ := out_list hh hg i.2 x.1 x.2 cs F hx hcs
    obtain ⟨r1, r2, r3⟩ := ih q.1 q.2 vs (ofIs F x.1).2.2 hq hL
    rw [a1] at r1 r2 r3
    simp only [ofTs]
    rw [a1]
    refine ⟨by simp [r1]; omega, fun ρ' hρ => ⟨⟨cs, a2 ρ' fun i u hu => hρ i u ?_, hg1⟩, r2 ρ' fun i u hu => ?_⟩, fun p hp => ?_⟩
    · rw [List.getElem?_append_left (List.getElem?_eq_some_iff.1 hu).1]; exact hu
    · rw [Nat.add_assoc]
      exact hρ (x.2.length + i) u (by rw [List.getElem?_append_right (by omega)]; simpa using hu)
    · rcases List.mem_append.1 hp with hp | hp
      · obtain ⟨i, u, h1, h2, h3⟩ := a3 p hp
        exact ⟨i, u, by rw [List.getElem?_append_left (List.getElem?_eq_some_iff.1 h1).1]; exact h1, h2, h3⟩
      · obtain ⟨i, u, h1, h2, h3⟩ := r3 p hp
        exact ⟨x.2.length + i, u, by rw [List.getElem?_append_right (by omega)]; simpa using h1, by omega, h3⟩

theorem lookB_mem : ∀ (bs : List (Nat × Blk)) (h : Nat → Option Blk) (k : Nat) (b : Blk), applyU h (mkU bs) k = some b → (k, b) ∈ bs ∨ h k = some b
  | [], _, _, _, h => .inr h
  | p :: r, h, k, b, hk => by
    rcases lookB_mem r (updh h p.1 (some p.2)) k b hk with h1 | h1
    · exact .inl (List.mem_cons_of_mem _ h1)
    · unfold updh at h1
      split at h1
      · rename_i e; simp at h1; subst h1; subst e; exact .inl (List.mem_cons_self ..)
      · exact .inr h1

theorem usesOK_get : ∀ {us : List Use}, usesOK us = true → ∀ {i j : Nat} {u v : Use}, us[i]? = some u → us[j]? = some v → i ≠ j → (u.own = true ∨ v.own = true) → u.k ≠ v.k := by
  intro us
  induction us with
  | nil => intro _ i j u v hi; simp at hi
  | cons x r ih =>
    intro h i j u v hi hj hne ho
    simp only [usesOK, Bool.and_eq_true, List.all_eq_true] at h
    have hx : ∀ {v : Use}, v ∈ r → (x.own = true ∨ v.own = true) → x.k ≠ v.k := by
      intro v hv ho e
      have := h.1 v hv
      rcases ho with ho | ho <;> simp [ho, e] at this
    cases i with
    | zero =>
      cases j with
      | zero => omega
      | succ j => simp at hi hj; subst hi; exact hx (List.mem_of_getElem? hj) ho
    | succ i =>
      cases j with
      | zero => simp at hi hj; subst hj; exact fun e => hx (List.mem_of_getElem? hi) ho.symm e.symm
      | succ j => exact ih h.2 (by simpa using hi) (by simpa using hj) (by omega) ho

/-- Every use's block, with its mark. -/
theorem out_uses {get : Nat → Option Blk} : ∀ (l m : List IV) (us : List Use), outL get l = some (m, us) → ∀ u ∈ us, ∃ b, get u.k = some b ∧ b.own = true := by
  intro l
  induction l with
  | nil => intro m us h u hu; simp [outL] at h; obtain ⟨rfl, rfl⟩ := h; simp at hu
  | cons i l ih =>
    intro m us h u hu
    simp only [outL] at h
    split at h
    case h_2 => simp at h
    rename_i x q hx hq
    simp at h
    obtain ⟨rfl, rfl⟩ := h
    rcases List.mem_append.1 hu with hu | hu
    · cases i
      case sl k off len =>
        simp only [outI] at hx
        split at hx
        case h_2 => simp at hx
        rename_i bk r hbk hr
        split at hx <;> simp at hx
        rename_i hok
        simp only [Bool.and_eq_true] at hok
        subst hx
        simp at hu
        subst hu
        exact ⟨bk, hbk, hok.1⟩
      all_goals first | (simp [outI] at hx; done) | (simp only [outI, Option.some.injEq] at hx; subst hx; simp at hu)
    · exact ih q.1 q.2 hq u hu
theorem outT_uses {get : Nat → Option Blk} : ∀ (l m : List (Bool × List IV)) (us : List Use), outT get l = some (m, us) → ∀ u ∈ us, ∃ b, get u.k = some b ∧ b.own = true := by
  intro l
  induction l with
  | nil => intro m us h u hu; simp [outT] at h; obtain ⟨rfl, rfl⟩ := h; simp at hu
  | cons i l ih =>
    intro m us h u hu
    simp only [outT] at h
    split at h
    case h_2 => simp at h
    rename_i x q hx hq
    simp at h
    obtain ⟨rfl, rfl⟩ := h
    rcases List.mem_append.1 hu with hu | hu
    · exact out_uses _ _ _ hx u hu
    · exact ih q.1 q.2 hq u hu

/-- Items with the same cells. -/
def LSame (l m : List IV) : Prop := ∀ (ρ : Nat → Pl) (vs : List Value), LCells ρ l vs → LCells ρ m vs
def TSame (l m : List (Bool × List IV)) : Prop := F2 (fun p q => p.1 = q.1 ∧ LSame p.2 q.2) l m
theorem LSame.rfl' {l : List IV} : LSame l l := fun _ _ h => h
theorem TSame.rfl' : ∀ {l : List (Bool × List IV)}, TSame l l
  | [] => trivial
  | _ :: _ => ⟨⟨rfl, LSame.rfl'⟩, TSame.rfl'⟩
theorem TSame.ok {ρ : Nat → Pl} : ∀ {l m : List (Bool × List IV)} {vs : List Value}, TSame l m → F2 (VR1 ρ) l vs → F2 (VR1 ρ) m vs
  | [], [], _, _, h => h
  | p :: l, q :: m, v :: vs, ⟨⟨h1, h2⟩, h3⟩, ⟨⟨cs, c1, c2⟩, h5⟩ => ⟨⟨cs, h2 ρ cs c1, by rw [← h1]; exact c2⟩, TSame.ok h3 h5⟩

/-- WHAT A STATE HANDS BACK. -/
def Gives (P : Program) (res : List ResultVar) (σ : St) (r : AV) : Prop :=
  ∃ m m' o us, ares P σ res = some m ∧ TSame m m' ∧ outT (hget σ.heap) m' = some (o, us) ∧ usesOK us = true ∧ aresV o = r

theorem results_run {P : Program} {fn : Func} {tmps : Array Value} {w : World} {vs : List Value} (h : (fn.results.toList.mapM (oneRes tmps)).run P w = .ok vs w) :
    (results fn tmps).run P w = .ok (if h : vs.length = 1 then vs[0] else .tuple vs.toArray) w := by
  have e : fn.results = fn.results.toList.toArray := by simp
  have : (results fn tmps) = ((Functor.map List.toArray (fn.results.toList.mapM (oneRes tmps))) >>= fun vs => pure (if h : vs.size = 1 then vs[0] else .tuple vs)) := by
    unfold results
    rw [e, List.mapM_toArray]
    rfl
  rw [this, map_eq_pure_bind]
  simp only [Sem.run_bind, h, Result.andThen_ok, Sem.run_pure, List.size_toArray]
  rfl

theorem gives_ok {P : Program} {fn : Func} {σ : St} {base : World} {ρ : Nat → Pl} {a : Act} {w : World} {r : AV} (hr : Rel base σ ρ a w) (hg : Gives P fn.results.toList σ r) :
    ∃ v, (results fn a.tmps).run P w = .ok v w ∧ ResOk base.heap.size w r v := by
  obtain ⟨m, m', o, us, h1, h2, h3, h4, rfl⟩ := hg
  obtain ⟨vs, hrun, hvs⟩ := ares_ok hr _ m h1
  have hvs' := TSame.ok h2 hvs
  refine ⟨_, results_run hrun, fun F => ?_⟩
  have hh : HOk base.heap.size ρ w (hget σ.heap) := hr.heap
  obtain ⟨l1, l2, l3⟩ := out_tup hh (fun _ _ h => h) m' o us vs F h3 hvs'
  let ρ' : Nat → Pl := fun j => if F ≤ j then match us[j - F]? with | some u => u.place ρ | none => .un else .un
  have hρ : ∀ i u, us[i]? = some u → ρ' (F + i) = u.place ρ := fun i u hu => by
    show (if F ≤ F + i then _ else _) = _
    rw [if_pos (by omega), Nat.add_sub_cancel_left, hu]
  have hρ' : ∀ k, ρ' k ≠ .un → F ≤ k ∧ ∃ u, us[k - F]? = some u ∧ ρ' k = u.place ρ := by
    intro k hk
    by_cases hF : F ≤ k
    · have hk' : ρ' k = match us[k - F]? with | some u => u.place ρ | none => .un := if_pos hF
      cases hu : us[k - F]? with
      | none => rw [hu] at hk'; exact absurd hk' hk
      | some u => rw [hu] at hk'; exact ⟨hF, u, rfl, hk'⟩
    · exact absurd (if_neg hF) hk
  have hof : (ofA F (aresV o)).2.2 = F + us.length ∧ (lookB (ofA F (aresV o)).2.1 = lookB (ofTs F o).2.1) ∧ (VRepr ρ' (ofA F (aresV o)).1 (if h : vs.length = 1 then vs[0] else .tuple vs.toArray)) := by
    have hc := l2 ρ' hρ
    have hlen := hc.length
    match o, l1, hc, hlen with
    | [], l1, hc, hlen =>
      match vs, hc with
      | [], hc => exact ⟨l1, rfl, [], rfl, hc⟩
    | [p], l1, hc, hlen =>
      match vs, hc with
      | [v], hc =>
        refine ⟨by simpa [ofTs, aresV, ofA] using l1, by simp [ofTs, aresV, ofA], ?_⟩
        exact hc.1
    | p :: q :: t, l1, hc, hlen =>
      match vs, hc with
      | v :: u :: s, hc => exact ⟨l1, rfl, v :: u :: s, by simp, hc⟩
  obtain ⟨hof1, hof2, hof3⟩ := hof
  have hmem : ∀ (i : Nat) (u : Use), us[i]? = some u → ∃ b, hget σ.heap u.k = some b ∧ b.own = true := fun i u hu => outT_uses m' o us h3 u (List.mem_of_getElem? hu)
  have hblock : ∀ {i : Nat} {u : Use} {L : Loc}, us[i]? = some u → u.place ρ = .at L → ∃ L' b, ρ u.k = .at L' ∧ L'.block = L.block ∧ hget σ.heap u.k = some b ∧ b.own = true ∧ base.heap.size ≤ L.block := by
    intro i u L hu hp
    obtain ⟨b, hb, ho⟩ := hmem i u hu
    unfold Use.place at hp
    split at hp
    · rename_i L' hL'
      simp at hp
      subst hp
      have := hh.blk u.k b hb
      simp only [BlkOk, hL'] at this
      obtain ⟨_, _, q, _⟩ := this
      exact ⟨L', b, hL', rfl, hb, ho, (q ho).2.1⟩
    · rename_i hne; exact absurd hp (hne L)
  refine ⟨ρ', fun k hk => ?_, fun k L hk => ?_, hof3, ?_⟩
  · obtain ⟨hF, u, hu, _⟩ := hρ' k hk
    have := (List.getElem?_eq_some_iff.1 hu).1
    omega
  · obtain ⟨hF, u, hu, e⟩ := hρ' k (by rw [hk]; simp)
    rw [hk] at e
    obtain ⟨_, _, _, _, _, _, h⟩ := hblock hu e.symm
    exact h
  · have hlook : ∀ k b, lookB (ofA F (aresV o)).2.1 k = some b → (k, b) ∈ (ofTs F o).2.1 := by
      intro k b hk
      rw [hof2] at hk
      rcases lookB_mem _ _ k b hk with h | h
      · exact h
      · simp at h
    refine ⟨fun k b hk => ?_, fun k k' b b' hk hk' hne ho L L' hL hL' => ?_⟩
    · obtain ⟨i, u, hu, e, hb⟩ := l3 _ (hlook k b hk)
      simp at e
      subst e
      exact (hb ρ' _ (hρ i u hu)).1
    · obtain ⟨i, u, hu, e, hb⟩ := l3 _ (hlook k b hk)
      obtain ⟨j, v, hv, e', hb'⟩ := l3 _ (hlook k' b' hk')
      simp at e e'
      subst e e'
      have hno := usesOK_get h4 hu hv (by omega) (.inl ((hb ρ' _ (hρ i u hu)).2.symm.trans ho))
      rw [hρ i u hu] at hL
      rw [hρ j v hv] at hL'
      obtain ⟨M, c, q1, q2, q3, q4, _⟩ := hblock hu hL
      obtain ⟨M', c', q1', q2', q3', _, _⟩ := hblock hv hL'
      rw [← q2, ← q2']
      exact hh.inj u.k v.k c c' q3 q3' hno q4 M M' q1 q1'

/-- THE CONTRACT OF A FUNCTION, from what its code leaves. -/
theorem calls_of_T {P : Program} {f : FuncId} {fn : Func} {c : Code} {ds : List AV} {r : AV} (hf : P.funcs[f]? = some fn) (hb : fn.body = some c)
    (h : T P c (entry fn.ntmps ds) fun e σ => (e = .normal ∨ e = .ret) ∧ Gives P fn.results.toList σ r) (w : World) (vals : List Value) (hv : F2 (DV w) ds vals) :
    Calls P f vals.toArray w fun e w' => ∃ v, e = .returned v ∧ Below w.heap.size w w' ∧ ResOk w.heap.size w' r v := by
  obtain ⟨ρ, hr⟩ := entry_rel fn.ntmps hv
  refine calls_of_wp hf hb ?_
  have hsz : vals.toArray.size = vals.length := by simp
  rw [hsz]
  refine wp_mono (h w ρ _ w hr) ?_
  rintro e a' w' ⟨σ', ρ', ⟨he, hgv⟩, hr'⟩
  obtain ⟨v, h1, h2⟩ := gives_ok hr' hgv
  rcases he with rfl | rfl
  · exact ⟨hr'.defers, v, h1, v, rfl, hr'.below, h2⟩
  · exact ⟨hr'.defers, v, h1, v, rfl, hr'.below, h2⟩

theorem Fn_of_T {P : Program} {f : FuncId} {fn : Func} {c : Code} {spec : List AV → Option AV} (hf : P.funcs[f]? = some fn) (hb : fn.body = some c)
    (h : ∀ ds r, spec ds = some r → T P c (entry fn.ntmps ds) fun e σ => (e = .normal ∨ e = .ret) ∧ Gives P fn.results.toList σ r) : Fn P f spec :=
  fun ds r hs w vals hv => calls_of_T hf hb (h ds r hs) w vals hv

/-- Code that is evaluated whole, with its result: the evaluator's answer. -/
def runFn (P : Program) (Γ : FuncId → Option Ct) (fuel : Nat) (f : FuncId) (ds : List AV) : Option (List (Bool × List IV) × (Nat → Option Blk)) :=
  match P.funcs[f]? with
  | none => none
  | some fn => match fn.body with
    | none => none
    | some c => match evc P Γ fuel c (entry fn.ntmps ds) with
      | some (.exit _, _) => none
      | some (_, σ) => (ares P σ fn.results.toList).map fun m => (m, hget σ.heap)
      | none => none

def outV (q : List (Bool × List IV) × (Nat → Option Blk)) : Option AV :=
  match outT q.2 q.1 with
  | some (o, us) => if usesOK us then some (aresV o) else none
  | none => none
def runFnV (P : Program) (Γ : FuncId → Option Ct) (fuel : Nat) (f : FuncId) (ds : List AV) : Option AV :=
  match runFn P Γ fuel f ds with
  | some q => outV q
  | none => none

theorem Fn_of_run {P : Program} {Γ : FuncId → Option Ct} (hΓ : GSound P Γ) (hm : P.follows .mixedOrders = true) (fuel : Nat) {f : FuncId} {spec : List AV → Option AV}
    (h : ∀ ds r, spec ds = some r → runFnV P Γ fuel f ds = some r) : Fn P f spec := by
  intro ds r hs w vals hv
  have hrun := h ds r hs
  unfold runFnV at hrun
  split at hrun
  case h_2 => simp at hrun
  rename_i q hq
  unfold runFn at hq
  split at hq
  · simp at hq
  rename_i fn hf
  split at hq
  · simp at hq
  rename_i c hc
  have fin : ∀ (e : Ex) (σ : St), evc P Γ fuel c (entry fn.ntmps ds) = some (e, σ) → (e.up = .normal ∨ e.up = .ret) → (ares P σ fn.results.toList).map (fun m => (m, hget σ.heap)) = some q →
      Calls P f vals.toArray w fun e w' => ∃ v, e = .returned v ∧ Below w.heap.size w w' ∧ ResOk w.heap.size w' r v := by
    intro e σ he hup hq
    refine calls_of_T hf hc (T.run hΓ hm fuel c he ⟨hup, ?_⟩) w vals hv
    cases hm : ares P σ fn.results.toList with
    | none => simp [hm] at hq
    | some m =>
      simp [hm] at hq
      subst hq
      unfold outV at hrun
      split at hrun
      case h_2 => simp at hrun
      rename_i o us ho
      split at hrun <;> simp at hrun
      rename_i hu
      exact ⟨m, m, o, us, hm, TSame.rfl', ho, hu, hrun⟩
  split at hq
  · simp at hq
  · rename_i e σ hne he
    refine fin e σ he ?_ hq
    cases e with
    | normal => exact .inl rfl
    | ret => exact .inr rfl
    | exit id => exact absurd rfl (hne id)
  · simp at hq

end Go.Ev
/- From a row's arguments to the evaluator's data, and from its result to the row. Own work; no statement of the seat is proved here. -/
namespace Go.Ev
open Go.ChangeShapes Go.WideShapes Go.RowKit

theorem trodAll_below {H : Type} {enc : TypeId × Value → H} {P : Program} (hl : laidOutB P = true) {W W' : World} (hb : Below W.heap.size W W') :
    ∀ (ts : List TypeId) (vs : List Value) (ds : List (DataW H)) (ps : List MemPlace), (∀ t ∈ ts, P.readableRec t = true ∧ t < P.types.size) → (∀ x ∈ ps, x.block < W.heap.size) →
      DataW.TrodAll enc P W 0 (fun _ => true) true ts vs ds ps → DataW.TrodAll enc P W' 0 (fun b => decide (b < W.heap.size)) true ts vs ds ps := by
  intro ts
  induction ts with
  | nil =>
    intro vs ds ps _ _ h
    obtain ⟨rfl, rfl, rfl⟩ := trodAll_nil h
    exact rfl
  | cons t ts ih =>
    intro vs ds ps hr hlt h
    obtain ⟨v, vs', d, ds', p, q, rfl, rfl, rfl, h1, h2⟩ := trodAll_cons h
    obtain ⟨r1, r2⟩ := hr t (List.mem_cons_self ..)
    exact ⟨p, q, Below.trod hl r1 r2 h1 hb (fun x hx => hlt x (List.mem_append_left _ hx)), ih vs' ds' q (fun t ht => hr t (List.mem_cons_of_mem _ ht)) (fun x hx => hlt x (List.mem_append_right _ hx)) h2, rfl⟩

/-- THE ROW: 'true; each argument reads as it did', of a call that only made memory. -/
theorem law_post {H : Type} {enc : TypeId × Value → H} {P : Program} {f : Func} {s : ChangeSpec} {W W' : World} {args : Array Value} {ds gs : List (DataW H)} {before : List MemPlace} {tb : TypeId}
    (hl : laidOutB P = true) (hr : ∀ t ∈ f.params.toList, P.readableRec t = true ∧ t < P.types.size) (hvars : s.vars = []) (hres : f.resultTypes = #[tb]) (htb : P.underlying tb = some .bool)
    (hW : DataW.Whole enc P f.params.toList s.vars false W args.toList ds gs before)
    (hsp : s.fn H (ds ++ gs) = { results := [.lit (.bool true)], args := ds }) (hb : Below W.heap.size W W') :
    s.post enc P f false true false false W args (.bool true) W' := by
  have hW' := hW
  obtain ⟨p, q, hA, hV, rfl, _, _⟩ := hW
  rw [hvars] at hV
  obtain ⟨rfl, rfl⟩ := trodVars_none hV
  rw [List.append_nil] at hsp hW'
  refine ⟨ds, [], _, [], p, [], hW', ?_, ?_, ?_, hb.frame _, fun h => by simp at h⟩
  · rw [List.append_nil, hsp, hres]
    exact ⟨[], [], ⟨1, by simp [DataW.trod, htb, Value.cells]⟩, rfl, rfl⟩
  · rw [List.append_nil, hsp]
    exact trodAll_below hl hb _ _ _ _ hr (fun x hx => by have := hW'.lt x hx; simpa using this) hA
  · rw [List.append_nil, hsp, hvars]
    exact rfl

/-! ### Arguments opened -/
section
variable {H : Type} {enc : TypeId × Value → H} {P : Program} {W : World} {t e : TypeId} {v : Value} {d : DataW H} {ps : List MemPlace} {base : Nat} {spare : Nat → Bool} {held : Bool}

theorem wf_u64 {n : Int} (h : (Lit.int .u64 n).wf = true) : ∃ x : BitVec 64, n = (x.toNat : Int) := by
  simp [Lit.wf, IntKind.min, IntKind.max, IntKind.signed, IntKind.bits] at h
  refine ⟨BitVec.ofNat 64 n.toNat, ?_⟩
  simp
  omega
theorem wf_u8 {n : Int} (h : (Lit.int .u8 n).wf = true) : ∃ x : BitVec 8, n = (x.toNat : Int) := by
  simp [Lit.wf, IntKind.min, IntKind.max, IntKind.signed, IntKind.bits] at h
  refine ⟨BitVec.ofNat 8 n.toNat, ?_⟩
  simp
  omega
theorem wf_u32 {n : Int} (h : (Lit.int .u32 n).wf = true) : ∃ x : BitVec 32, n = (x.toNat : Int) := by
  simp [Lit.wf, IntKind.min, IntKind.max, IntKind.signed, IntKind.bits] at h
  refine ⟨BitVec.ofNat 32 n.toNat, ?_⟩
  simp
  omega
theorem wf_u16 {n : Int} (h : (Lit.int .u16 n).wf = true) : 0 ≤ n ∧ n ≤ 65535 := by
  simp [Lit.wf, IntKind.min, IntKind.max, IntKind.signed, IntKind.bits] at h
  omega
theorem wf_i64 {n : Int} (h : (Lit.int .i64 n).wf = true) : -9223372036854775808 ≤ n ∧ n ≤ 9223372036854775807 := by
  simp [Lit.wf, IntKind.min, IntKind.max, IntKind.signed, IntKind.bits] at h
  omega

theorem open_i64 (ht : P.underlying t = some (.int .i64)) (hval : Value.okWide P W .any base t v) (hd : DataW.Trod enc P W 0 (fun _ => true) true t v d ps) :
    ∃ n : Int, DV W (sc (.i64 n)) v ∧ -9223372036854775808 ≤ n ∧ n ≤ 9223372036854775807 := by
  obtain ⟨n, rfl, _, _, hw⟩ := open_int ht hval hd
  exact ⟨n, ⟨[.int .i64 n], ⟨[.int .i64 n], [], rfl, rfl, rfl⟩, rfl⟩, wf_i64 hw⟩

theorem open_u64 (ht : P.underlying t = some (.int .u64)) (hval : Value.okWide P W .any base t v) (hd : DataW.Trod enc P W 0 (fun _ => true) true t v d ps) :
    ∃ x : BitVec 64, DV W (sc (.u64 x)) v := by
  obtain ⟨n, rfl, _, _, hw⟩ := open_int ht hval hd
  obtain ⟨x, rfl⟩ := wf_u64 hw
  exact ⟨x, ⟨[wordVal x], ⟨[wordVal x], [], rfl, rfl, rfl⟩, rfl⟩⟩

theorem open_u8 (ht : P.underlying t = some (.int .u8)) (hval : Value.okWide P W .any base t v) (hd : DataW.Trod enc P W 0 (fun _ => true) true t v d ps) :
    ∃ x : BitVec 8, DV W (sc (.u8 x)) v := by
  obtain ⟨n, rfl, _, _, hw⟩ := open_int ht hval hd
  obtain ⟨x, rfl⟩ := wf_u8 hw
  exact ⟨x, ⟨[byteVal x], ⟨[byteVal x], [], rfl, rfl, rfl⟩, rfl⟩⟩

theorem open_u16 (ht : P.underlying t = some (.int .u16)) (hval : Value.okWide P W .any base t v) (hd : DataW.Trod enc P W 0 (fun _ => true) true t v d ps) :
    ∃ x : BitVec 16, DV W (sc (.u16 x)) v := by
  obtain ⟨n, rfl, _, _, hw⟩ := open_int ht hval hd
  obtain ⟨h1, h2⟩ := wf_u16 hw
  refine ⟨BitVec.ofInt 16 n, ⟨_, ⟨_, [], rfl, rfl, rfl⟩, ?_⟩⟩
  have : ((BitVec.ofInt 16 n).toNat : Int) = n := by rw [BitVec.toNat_ofInt]; omega
  show [half16 _] = [_]
  simp only [half16, this]
theorem open_u32 (ht : P.underlying t = some (.int .u32)) (hval : Value.okWide P W .any base t v) (hd : DataW.Trod enc P W 0 (fun _ => true) true t v d ps) :
    ∃ x : BitVec 32, DV W (sc (.u32 x)) v := by
  obtain ⟨n, rfl, _, _, hw⟩ := open_int ht hval hd
  obtain ⟨x, rfl⟩ := wf_u32 hw
  exact ⟨x, ⟨[w32Val x], ⟨[w32Val x], [], rfl, rfl, rfl⟩, rfl⟩⟩

/-- An array of integers: its cells. -/
theorem open_arr {n : Nat} {k : IntKind} (ht : P.underlying t = some (.array n e)) (he : P.underlying e = some (.int k)) (hce : P.cellsOf e = 1) (hct : P.cellsOf t = n)
    (hval : Value.okWide P W .any base t v) (hd : DataW.Trod enc P W 0 (fun _ => true) true t v d ps) :
    ∃ zs : List Int, v = .agg (zs.map (Value.int k)).toArray ∧ zs.length = n ∧ ∀ z ∈ zs, (Lit.int k z).wf = true := by
  have hv : ∃ cs, v = .agg cs := by
    simp only [Value.okWide, ht] at hval
    obtain ⟨cs, hcs, _⟩ := hval
    exact ⟨cs, hcs⟩
  obtain ⟨cs, rfl⟩ := hv
  obtain ⟨fuel, hf⟩ := hd
  obtain ⟨xs, m, _, _, hl, hn, hx⟩ := DataW.trod_array ht hf
  have hl' : cs.toList.length = n := by rw [← hct]; exact hl
  have hcell : ∀ i, i < n → ∃ z, cs.toList[i]? = some (.int k z) ∧ (Lit.int k z).wf = true := by
    intro i hi
    have := hx i hi
    rw [hce, Nat.mul_one] at this
    have hxi : ∃ y, xs[i]? = some y := ⟨xs[i], List.getElem?_eq_getElem (by omega)⟩
    obtain ⟨y, hy⟩ := hxi
    rw [hy] at this
    obtain ⟨z, hz, _, hw⟩ := DataW.trod_int he this
    refine ⟨z, ?_, hw⟩
    have h1 : ((Value.agg cs).cells.toList.drop i).take 1 = [.int k z] := hz
    have h2 : (((Value.agg cs).cells.toList.drop i).take 1)[0]? = some (.int k z) := by rw [h1]; rfl
    rw [List.getElem?_take, List.getElem?_drop] at h2
    simpa [Value.cells] using h2
  have gen : ∀ (l : List Value), (∀ i, i < l.length → ∃ z, l[i]? = some (.int k z) ∧ (Lit.int k z).wf = true) → ∃ zs : List Int, l = zs.map (Value.int k) ∧ ∀ z ∈ zs, (Lit.int k z).wf = true := by
    intro l
    induction l with
    | nil => intro _; exact ⟨[], rfl, by simp⟩
    | cons a l ih =>
      intro h
      obtain ⟨zs, h1, h2⟩ := ih fun i hi => by have := h (i + 1) (by simpa using hi); simpa using this
      obtain ⟨z, hz, hw⟩ := h 0 (by simp)
      simp at hz
      refine ⟨z :: zs, by simp [h1, hz], fun y hy => ?_⟩
      rcases List.mem_cons.1 hy with rfl | hy
      · exact hw
      · exact h2 y hy
  obtain ⟨zs, h1, h2⟩ := gen cs.toList fun i hi => hcell i (by omega)
  refine ⟨zs, ?_, ?_, h2⟩
  · rw [← h1]
  · have := congrArg List.length h1
    simp at this
    have h3 : cs.toList.length = cs.size := by simp
    omega

theorem words_of {zs : List Int} (h : ∀ z ∈ zs, (Lit.int .u64 z).wf = true) : ∃ l : List (BitVec 64), zs.map (Value.int .u64) = l.map wordVal ∧ l.length = zs.length := by
  induction zs with
  | nil => exact ⟨[], rfl, rfl⟩
  | cons z zs ih =>
    obtain ⟨l, h1, h2⟩ := ih fun y hy => h y (List.mem_cons_of_mem _ hy)
    obtain ⟨x, hx⟩ := wf_u64 (h z (List.mem_cons_self ..))
    exact ⟨x :: l, by simp [h1, hx, wordVal], by simp [h2]⟩
theorem bytes_of {zs : List Int} (h : ∀ z ∈ zs, (Lit.int .u8 z).wf = true) : ∃ l : List (BitVec 8), zs.map (Value.int .u8) = l.map byteVal ∧ l.length = zs.length := by
  induction zs with
  | nil => exact ⟨[], rfl, rfl⟩
  | cons z zs ih =>
    obtain ⟨l, h1, h2⟩ := ih fun y hy => h y (List.mem_cons_of_mem _ hy)
    obtain ⟨x, hx⟩ := wf_u8 (h z (List.mem_cons_self ..))
    exact ⟨x :: l, by simp [h1, hx, byteVal], by simp [h2]⟩

theorem words32_of {zs : List Int} (h : ∀ z ∈ zs, (Lit.int .u32 z).wf = true) : ∃ l : List (BitVec 32), zs.map (Value.int .u32) = l.map w32Val ∧ l.length = zs.length := by
  induction zs with
  | nil => exact ⟨[], rfl, rfl⟩
  | cons z zs ih =>
    obtain ⟨l, h1, h2⟩ := ih fun y hy => h y (List.mem_cons_of_mem _ hy)
    obtain ⟨x, hx⟩ := wf_u32 (h z (List.mem_cons_self ..))
    exact ⟨x :: l, by simp [h1, hx, w32Val], by simp [h2]⟩

theorem DLs_u64s : ∀ l : List (BitVec 64), DLs W (l.map IV.u64) (l.map wordVal)
  | [] => rfl
  | x :: l => ⟨[wordVal x], l.map wordVal, rfl, rfl, DLs_u64s l⟩

theorem open_num (ht : P.underlying t = some (.array 4 e)) (he : P.underlying e = some (.int .u64)) (hce : P.cellsOf e = 1) (hct : P.cellsOf t = 4)
    (hval : Value.okWide P W .any base t v) (hd : DataW.Trod enc P W 0 (fun _ => true) true t v d ps) : ∃ a : N4, DV W (.val true [.n4 a]) v := by
  obtain ⟨zs, rfl, hn, hw⟩ := open_arr ht he hce hct hval hd
  obtain ⟨l, h1, h2⟩ := words_of hw
  rw [h1]
  match l, h2.trans hn with
  | [a, b, c, d], _ => exact ⟨⟨a, b, c, d⟩, _, ⟨_, [], (List.append_nil _).symm, rfl, rfl⟩, rfl⟩
theorem open_u64s {n : Nat} (ht : P.underlying t = some (.array n e)) (he : P.underlying e = some (.int .u64)) (hce : P.cellsOf e = 1) (hct : P.cellsOf t = n)
    (hval : Value.okWide P W .any base t v) (hd : DataW.Trod enc P W 0 (fun _ => true) true t v d ps) : ∃ l : List (BitVec 64), l.length = n ∧ DV W (.val true (l.map IV.u64)) v := by
  obtain ⟨zs, rfl, hn, hw⟩ := open_arr ht he hce hct hval hd
  obtain ⟨l, h1, h2⟩ := words_of hw
  rw [h1]
  exact ⟨l, h2.trans hn, _, DLs_u64s l, rfl⟩
theorem open_u8s {n : Nat} (ht : P.underlying t = some (.array n e)) (he : P.underlying e = some (.int .u8)) (hce : P.cellsOf e = 1) (hct : P.cellsOf t = n)
    (hval : Value.okWide P W .any base t v) (hd : DataW.Trod enc P W 0 (fun _ => true) true t v d ps) : ∃ l : List (BitVec 8), l.length = n ∧ DV W (.val true [.v8 n l]) v := by
  obtain ⟨zs, rfl, hn, hw⟩ := open_arr ht he hce hct hval hd
  obtain ⟨l, h1, h2⟩ := bytes_of hw
  rw [h1]
  exact ⟨l, h2.trans hn, _, ⟨_, [], (List.append_nil _).symm, by simp [DCells, PCells, h2, hn], rfl⟩, rfl⟩

theorem open_u32s {n : Nat} (ht : P.underlying t = some (.array n e)) (he : P.underlying e = some (.int .u32)) (hce : P.cellsOf e = 1) (hct : P.cellsOf t = n)
    (hval : Value.okWide P W .any base t v) (hd : DataW.Trod enc P W 0 (fun _ => true) true t v d ps) : ∃ l : List (BitVec 32), l.length = n ∧ DV W (.val true [.v32 n l]) v := by
  obtain ⟨zs, rfl, hn, hw⟩ := open_arr ht he hce hct hval hd
  obtain ⟨l, h1, h2⟩ := words32_of hw
  rw [h1]
  exact ⟨l, h2.trans hn, _, ⟨_, [], (List.append_nil _).symm, by simp [DCells, PCells, h2, hn], rfl⟩, rfl⟩

theorem cell_addr {a : Addr} {u : Value} (h : W.cell? a = some u) : a.block < W.heap.size ∧ a.spot = none := by
  unfold World.cell? at h
  split at h
  case h_2 => simp at h
  rename_i hb
  refine ⟨(Array.getElem?_eq_some_iff.1 hb).1, ?_⟩
  cases hs : a.spot with
  | none => rfl
  | some x => simp [hs] at h

/-- Bytes. -/
theorem open_d8 (ht : P.underlying t = some (.slice e)) (he : P.underlying e = some (.int .u8)) (hce : P.cellsOf e = 1) (hby : P.bytesOf e = 1)
    (hval : Value.okWide P W .any base t v) (hd : DataW.Trod enc P W 0 (fun _ => true) true t v d ps) : ∃ l : List (BitVec 8), DV W (sc (.d8 l)) v ∧ (∀ N, (∀ x ∈ d.weights P t, x ≤ N) → l.length ≤ N) ∧ (l = [] ∨ ∃ elems spare, d = .slice elems spare ∧ l.length ≤ elems.length) := by
  obtain ⟨a1, len, cap, rfl⟩ := okWide_slice ht hval
  obtain ⟨fuel, hf⟩ := hd
  rcases open_ints ht he hce hf with ⟨hcs, hx⟩ | ⟨a, len', cap', zs, hcs, _, hl, hm, hz, hx, hcell, hwz⟩
  · simp [Value.cells] at hcs
    obtain ⟨rfl, rfl, rfl⟩ := hcs
    exact ⟨[], ⟨[.slice none 0 0], ⟨_, [], rfl, ⟨_, rfl, .inr ⟨rfl, rfl, none, rfl⟩⟩, rfl⟩, rfl⟩, fun N _ => by simp, .inl rfl⟩
  · simp [Value.cells] at hcs
    obtain ⟨rfl, rfl, rfl⟩ := hcs
    simp at hz
    obtain ⟨l, h1, h2⟩ := bytes_of hwz
    have hlen : (l.take len).length = len := by simp; omega
    have hmax : maxLen = 9223372036854775807 := rfl
    have hcell0 : ∀ i u, ((l.take len).map byteVal)[i]? = some u → W.cell? (a.add i) = some u := by
      intro i u hu
      rw [List.getElem?_map, List.getElem?_take] at hu
      split at hu
      case isFalse => simp at hu
      have hi : i < zs.length := by omega
      rw [hcell i hi]
      have hg : (zs.map (Value.int .u8))[i]? = (l.map byteVal)[i]? := by rw [h1]
      rw [List.getElem?_map, List.getElem?_map, List.getElem?_eq_getElem hi] at hg
      rw [← List.getElem?_map] at hu
      simp only [List.getElem?_map] at hu
      rw [← hg] at hu
      simp at hu
      subst hu
      simp [List.getD, List.getElem?_eq_getElem hi]
    refine ⟨l.take len, ⟨[_], ⟨[_], [], rfl, ⟨_, rfl, ?_⟩, rfl⟩, rfl⟩, fun N hN => ?_, ?_⟩
    case refine_3 =>
      simp only [Prod.mk.injEq] at hx
      obtain ⟨rfl, rfl⟩ := hx
      exact .inr ⟨_, _, rfl, by simp [lits]; omega⟩
    case refine_2 =>
      simp only [Prod.mk.injEq] at hx
      obtain ⟨rfl, rfl⟩ := hx
      have h3 := hN (((lits (H := H) .u8 (zs.take len)).length + (lits (H := H) .u8 (zs.drop len)).length) * P.bytesOf e) (by simp [DataW.weights, ht])
      simp only [hby, Nat.mul_one, lits, List.length_map, List.length_take, List.length_drop] at h3
      omega
    rw [hlen]
    by_cases h0 : cap = 0
    · subst h0
      have : len = 0 := by omega
      subst this
      exact .inr ⟨rfl, by simp, some a, rfl⟩
    · have hc0 := hcell 0 (by omega)
      obtain ⟨hb, hs⟩ := cell_addr hc0
      obtain ⟨blk, off, sub⟩ := a
      simp [Addr.add] at hb hs
      subst hs
      exact .inl ⟨blk, off, cap, rfl, hl, hb, fun i u hu => (congrArg W.cell? (Addr_add_at blk off i)).symm.trans (hcell0 i u hu)⟩

/-- Four cells of a number. -/
theorem num_cells {t e : TypeId} {fuel : Nat} {cs : List Value} {x : DataW H × List MemPlace} (ht : P.underlying t = some (.array 4 e)) (he : P.underlying e = some (.int .u64)) (hce : P.cellsOf e = 1) (hct : P.cellsOf t = 4)
    (hf : DataW.trod enc P W base spare held fuel t cs = some x) : ∃ a : N4, cs = n4Vals a := by
  obtain ⟨xs, m, _, _, hl, hn, hx⟩ := DataW.trod_array ht hf
  rw [hct] at hl
  have cell : ∀ i, i < 4 → ∃ y : BitVec 64, cs[i]? = some (wordVal y) := by
    intro i hi
    have := hx i hi
    rw [hce, Nat.mul_one] at this
    obtain ⟨y, hy⟩ : ∃ y, xs[i]? = some y := ⟨xs[i], List.getElem?_eq_getElem (by omega)⟩
    rw [hy] at this
    obtain ⟨z, hz, _, hw⟩ := DataW.trod_int he this
    obtain ⟨q, hq⟩ := wf_u64 hw
    refine ⟨q, ?_⟩
    have h2 : ((cs.drop i).take 1)[0]? = some (.int .u64 z) := by rw [hz]; rfl
    rw [List.getElem?_take, List.getElem?_drop] at h2
    rw [hq] at h2
    simpa [wordVal] using h2
  match cs, hl with
  | [c0, c1, c2, c3], _ =>
    obtain ⟨x0, h0⟩ := cell 0 (by omega)
    obtain ⟨x1, h1⟩ := cell 1 (by omega)
    obtain ⟨x2, h2⟩ := cell 2 (by omega)
    obtain ⟨x3, h3⟩ := cell 3 (by omega)
    simp at h0 h1 h2 h3
    exact ⟨⟨x0, x1, x2, x3⟩, by rw [h0, h1, h2, h3]; rfl⟩
/-- Numbers, one behind the other. -/
theorem open_dn {e0 : TypeId} (ht : P.underlying t = some (.slice e)) (he : P.underlying e = some (.array 4 e0)) (he0 : P.underlying e0 = some (.int .u64)) (hce0 : P.cellsOf e0 = 1) (hce : P.cellsOf e = 4)
    (hval : Value.okWide P W .any base t v) (hd : DataW.Trod enc P W 0 (fun _ => true) true t v d ps) : ∃ l : List N4, DV W (sc (.dn l)) v ∧ (l = [] ∨ ∃ elems spare, d = .slice elems spare ∧ l.length ≤ elems.length) := by
  obtain ⟨a1, len, cap, rfl⟩ := okWide_slice ht hval
  obtain ⟨fuel, hf⟩ := hd
  rcases DataW.trod_slice ht hf with ⟨hcs, hx⟩ | ⟨a, len', cap', elems, rest, n, _, hcs, hx, _, hl, hm, hlen, hel, hsp, _⟩
  · simp [Value.cells] at hcs
    obtain ⟨rfl, rfl, rfl⟩ := hcs
    exact ⟨[], ⟨[.slice none 0 0], ⟨_, [], rfl, ⟨_, rfl, .inr ⟨rfl, rfl, none, rfl⟩⟩, rfl⟩, rfl⟩, .inl rfl⟩
  · simp [Value.cells] at hcs
    obtain ⟨rfl, rfl, rfl⟩ := hcs
    obtain ⟨hrl, hr⟩ := hsp rfl
    have one : ∀ i y, (W.cells? 0 (a.add (i * P.cellsOf e)) (P.cellsOf e)).bind (DataW.trod enc P W 0 (fun _ => true) true n e) = some y → ∃ y : N4, ∀ j, j < 4 → W.cell? ((a.add (i * 4)).add j) = some (wordVal (y.get j)) := by
      intro i y h1
      rw [hce, Option.bind_eq_some_iff] at h1
      obtain ⟨cs, h2, h3⟩ := h1
      obtain ⟨y, rfl⟩ := num_cells he he0 hce0 hce h3
      obtain ⟨_, h4, h5⟩ := World.cells?_some h2
      exact ⟨y, fun j hj => (h5 j hj).trans (n4_get y j hj)⟩
    have each : ∀ i, i < len → ∃ y : N4, ∀ j, j < 4 → W.cell? ((a.add (i * 4)).add j) = some (wordVal (y.get j)) := fun i hi => by
      have h1 := hel i hi
      rw [List.getElem?_eq_getElem (by omega)] at h1
      exact one i _ h1
    have all : ∀ m, m ≤ len → ∃ l : List N4, l.length = m ∧ ∀ i, i < m → ∀ j, j < 4 → W.cell? ((a.add (i * 4)).add j) = some (wordVal ((l.getD i N4.zero).get j)) := by
      intro m
      induction m with
      | zero => intro _; exact ⟨[], rfl, fun i hi => by omega⟩
      | succ m ih =>
        intro hm'
        obtain ⟨l, h1, h2⟩ := ih (by omega)
        obtain ⟨y, hy⟩ := each m (by omega)
        refine ⟨l ++ [y], by simp [h1], fun i hi j hj => ?_⟩
        by_cases e : i = m
        · subst e
          have : (l ++ [y]).getD i N4.zero = y := by simp [List.getD_eq_getElem?_getD, ← h1]
          rw [this]; exact hy j hj
        · have : (l ++ [y]).getD i N4.zero = l.getD i N4.zero := by
            rw [List.getD_eq_getElem?_getD, List.getD_eq_getElem?_getD, List.getElem?_append_left (by omega)]
          rw [this]; exact h2 i (by omega) j hj
    obtain ⟨l, hll, hcell⟩ := all len (Nat.le_refl _)
    refine ⟨l, ⟨[_], ⟨[_], [], rfl, ⟨_, rfl, ?_⟩, rfl⟩, rfl⟩, ?_⟩
    case refine_2 =>
      simp only [Prod.mk.injEq] at hx
      obtain ⟨rfl, rfl⟩ := hx
      exact .inr ⟨_, _, rfl, by simp [hll, hlen]⟩
    rw [hll]
    by_cases h0 : cap = 0
    · subst h0
      have : len = 0 := by omega
      subst this
      have : l = [] := List.eq_nil_of_length_eq_zero hll
      subst this
      exact .inr ⟨rfl, rfl, some a, rfl⟩
    · have hfirst : ∃ y : N4, ∀ j, j < 4 → W.cell? ((a.add (0 * 4)).add j) = some (wordVal (y.get j)) := by
        by_cases h1 : 0 < len
        · exact each 0 h1
        · have h2 := hr 0 (by omega)
          have h3 : len + 0 = 0 := by omega
          rw [h3, List.getElem?_eq_getElem (by omega)] at h2
          exact one 0 _ h2
      obtain ⟨y, hy⟩ := hfirst
      obtain ⟨hb, hs⟩ := cell_addr (hy 0 (by omega))
      obtain ⟨blk, off, sub⟩ := a
      simp [Addr.add] at hb hs
      subst hs
      refine .inl ⟨blk, off, cap, rfl, hl, hb, fun i u hu => ?_⟩
      have hi : i < 4 * l.length := by
        have := (List.getElem?_eq_some_iff.1 hu).1
        have h4 : (l.flatMap n4Vals).length = 4 * l.length := by
          have := PCells_length (i := .vn l.length l) (vs := l.flatMap n4Vals) (by simp [PCells])
          simpa [IV.size] using this
        omega
      rw [flat_get l i hi] at hu
      simp at hu
      subst hu
      have h5 := hcell (i / 4) (by omega) (i % 4) (Nat.mod_lt _ (by omega))
      rw [Addr_add_at, Addr_add_at] at h5
      have h6 : off + i / 4 * 4 + i % 4 = off + i := by omega
      rw [h6] at h5
      simpa using h5
end
end Go.Ev
