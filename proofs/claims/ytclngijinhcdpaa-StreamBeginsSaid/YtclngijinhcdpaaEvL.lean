/- Functions: from their code to their contract. Own work; no statement of the seat is proved here. -/
import Derived.Test.YtclngijinhcdpaaEvK
namespace Go.Ev
open Go.RowKit

/-! ### What comes in: blocks that are only read -/
def innerI (F : Nat) : List (List Int) → List IV × List (Nat × Blk)
  | [] => ([], [])
  | l :: r => let q := innerI (F + 1) r; (.sl F 0 l.length :: q.1, (F, ⟨false, [.vi l.length l]⟩) :: q.2)
def inner8 (F : Nat) : List (List (BitVec 8)) → List IV × List (Nat × Blk)
  | [] => ([], [])
  | l :: r => let q := inner8 (F + 1) r; (.sl F 0 l.length :: q.1, (F, ⟨false, [.v8 l.length l]⟩) :: q.2)

def inI (F : Nat) : IV → IV × List (Nat × Blk) × Nat
  | .d8 l => (.sl F 0 l.length, [(F, ⟨false, [.v8 l.length l]⟩)], F + 1)
  | .r8 l => (.sl F 0 l.length, [(F, ⟨false, [.v8 l.length l]⟩)], F + 1)
  | .dI l => (.sl F 0 l.length, [(F, ⟨false, [.vi l.length l]⟩)], F + 1)
  | .dN x => (.sl F 0 (dg x).length, [(F, ⟨false, [.vd x]⟩)], F + 1)
  | .d32 l => (.sl F 0 l.length, [(F, ⟨false, [.v32 l.length l]⟩)], F + 1)
  | .dn l => (.sl F 0 l.length, [(F, ⟨false, [.vn l.length l]⟩)], F + 1)
  | .dsI ls => (.sl (F + ls.length) 0 ls.length, (innerI F ls).2 ++ [(F + ls.length, ⟨false, (innerI F ls).1⟩)], F + ls.length + 1)
  | .ds8 ls => (.sl (F + ls.length) 0 ls.length, (inner8 F ls).2 ++ [(F + ls.length, ⟨false, (inner8 F ls).1⟩)], F + ls.length + 1)
  | i => (i, [], F)

def inL (F : Nat) : List IV → List IV × List (Nat × Blk) × Nat
  | [] => ([], [], F)
  | i :: r => let a := inI F i; let q := inL a.2.2 r; (a.1 :: q.1, a.2.1 ++ q.2.1, q.2.2)

def inAs (F : Nat) : List AV → List AV × List (Nat × Blk) × Nat
  | [] => ([], [], F)
  | .val g l :: r => let a := inL F l; let q := inAs a.2.2 r; (.val g a.1 :: q.1, a.2.1 ++ q.2.1, q.2.2)
  | x :: r => let q := inAs F r; (x :: q.1, q.2.1, q.2.2)

/-- Blocks so far, none of them one's own; the numbers from F on are free. -/
structure InOk (B : Nat) (ρ : Nat → Pl) (w : World) (h : Nat → Option Blk) (F : Nat) : Prop where
  ok : HOk B ρ w h
  ro : ∀ k b, h k = some b → b.own = false
  free : ∀ k, F ≤ k → ρ k = .un

theorem InOk.add {B : Nat} {ρ : Nat → Pl} {w : World} {h : Nat → Option Blk} {F : Nat} (hi : InOk B ρ w h F) (p : Pl) (items : List IV) (hb : BlkOk B (updρ ρ F p) w F ⟨false, items⟩) :
    InOk B (updρ ρ F p) w (updh h F (some ⟨false, items⟩)) (F + 1) := by
  have he := ext_updρ (hi.free F (Nat.le_refl _)) p
  refine ⟨⟨fun k b hk => ?_, fun k k' b b' hk hk' hne ho => ?_⟩, fun k b hk => ?_, fun k hk => ?_⟩
  · by_cases e : k = F
    · subst e; simp [updh] at hk; subst hk; exact hb
    · simp [updh, e] at hk; exact (hi.ok.blk k b hk).ext he
  · exfalso
    by_cases e : k = F
    · subst e; simp [updh] at hk; subst hk; simp at ho
    · simp [updh, e] at hk; have := hi.ro k b hk; rw [this] at ho; simp at ho
  · by_cases e : k = F
    · subst e; simp [updh] at hk; subst hk; rfl
    · simp [updh, e] at hk; exact hi.ro k b hk
  · rw [updρ_other _ _ _ (by omega)]; exact hi.free k (by omega)

/-- One slice that comes in. -/
theorem in_slice {B : Nat} {ρ : Nat → Pl} {w : World} {h : Nat → Option Blk} {F : Nat} (hi : InOk B ρ w h F) {n : Nat} {vs : List Value} {v : Value} {items : List IV}
    (hr : RdSl w n vs v) (hL : LCells ρ items vs) :
    ∃ ρ', Ext ρ ρ' ∧ ICells ρ' (.sl F 0 n) [v] ∧ InOk B ρ' w (updh h F (some ⟨false, items⟩)) (F + 1) := by
  have hu := hi.free F (Nat.le_refl _)
  rcases hr with ⟨blk, off, cap, rfl, hle, hlt, hc⟩ | ⟨rfl, rfl, a, rfl⟩
  · refine ⟨updρ ρ F (.at ⟨blk, off, cap⟩), ext_updρ hu _, .inl ⟨⟨blk, off, cap⟩, cap, updρ_same _ _ _, hle, by simp, by simp⟩, hi.add _ _ ?_⟩
    simp only [BlkOk, updρ_same]
    exact ⟨vs, hL.ext (ext_updρ hu _), fun e => by simp at e, fun _ => ⟨hlt, hc⟩⟩
  · refine ⟨updρ ρ F .ph, ext_updρ hu _, .inr ⟨rfl, by rw [updρ_same]; simp, a, rfl⟩, hi.add _ _ ?_⟩
    simp only [BlkOk, updρ_same]
    exact hL.ext (ext_updρ hu _)

theorem mkU_append (a b : List (Nat × Blk)) : mkU (a ++ b) = mkU a ++ mkU b := by simp [mkU]
theorem applyU_append : ∀ (a b : Upd) (h : Nat → Option Blk), applyU h (a ++ b) = applyU (applyU h a) b
  | [], _, _ => rfl
  | u :: a, b, h => by simp only [List.cons_append, applyU, applyU_append a b]

theorem in_innerI {B : Nat} {w : World} : ∀ (ls : List (List Int)) (ρ : Nat → Pl) (h : Nat → Option Blk) (F : Nat) (vs : List Value), InOk B ρ w h F → F2 (fun l u => RdSl w (List.length l) (l.map intVal) u) ls vs →
    ∃ ρ', Ext ρ ρ' ∧ LCells ρ' (innerI F ls).1 vs ∧ InOk B ρ' w (applyU h (mkU (innerI F ls).2)) (F + ls.length) := by
  intro ls
  induction ls with
  | nil =>
    intro ρ h F vs hi hv
    match vs, hv with
    | [], _ => exact ⟨ρ, Ext.refl ρ, rfl, hi⟩
  | cons l r ih =>
    intro ρ h F vs hi hv
    match vs, hv with
    | v :: vs, ⟨h1, h2⟩ =>
      obtain ⟨ρ1, e1, s1, i1⟩ := in_slice hi h1 (LCells_single (ρ := ρ) (i := .vi l.length l) (by simp [ICells, PCells]))
      obtain ⟨ρ2, e2, s2, i2⟩ := ih ρ1 _ (F + 1) vs i1 h2
      refine ⟨ρ2, e1.trans e2, ⟨[v], vs, rfl, s1.ext e2, s2⟩, ?_⟩
      have : F + (l :: r).length = F + 1 + r.length := by simp; omega
      rw [this]
      exact i2
theorem in_inner8 {B : Nat} {w : World} : ∀ (ls : List (List (BitVec 8))) (ρ : Nat → Pl) (h : Nat → Option Blk) (F : Nat) (vs : List Value), InOk B ρ w h F → F2 (fun l u => RdSl w (List.length l) (l.map byteVal) u) ls vs →
    ∃ ρ', Ext ρ ρ' ∧ LCells ρ' (inner8 F ls).1 vs ∧ InOk B ρ' w (applyU h (mkU (inner8 F ls).2)) (F + ls.length) := by
  intro ls
  induction ls with
  | nil =>
    intro ρ h F vs hi hv
    match vs, hv with
    | [], _ => exact ⟨ρ, Ext.refl ρ, rfl, hi⟩
  | cons l r ih =>
    intro ρ h F vs hi hv
    match vs, hv with
    | v :: vs, ⟨h1, h2⟩ =>
      obtain ⟨ρ1, e1, s1, i1⟩ := in_slice hi h1 (LCells_single (ρ := ρ) (i := .v8 l.length l) (by simp [ICells, PCells]))
      obtain ⟨ρ2, e2, s2, i2⟩ := ih ρ1 _ (F + 1) vs i1 h2
      refine ⟨ρ2, e1.trans e2, ⟨[v], vs, rfl, s1.ext e2, s2⟩, ?_⟩
      have : F + (l :: r).length = F + 1 + r.length := by simp; omega
      rw [this]
      exact i2

theorem in_item {B : Nat} {w : World} (i : IV) (ρ : Nat → Pl) (h : Nat → Option Blk) (F : Nat) (vs : List Value) (hi : InOk B ρ w h F) (hd : DCells w i vs) :
    ∃ ρ', Ext ρ ρ' ∧ ICells ρ' (inI F i).1 vs ∧ InOk B ρ' w (applyU h (mkU (inI F i).2.1)) (inI F i).2.2 := by
  have one : ∀ {n : Nat} {us : List Value} {v : Value} {it : IV}, vs = [v] → RdSl w n us v → PCells it = some us → ∃ ρ', Ext ρ ρ' ∧ ICells ρ' (.sl F 0 n) vs ∧ InOk B ρ' w (updh h F (some ⟨false, [it]⟩)) (F + 1) := by
    rintro n us v it rfl hr hp
    exact in_slice hi hr (LCells_single (ICells_of_P hp))
  have plain : PCells i = some vs → inI F i = (i, [], F) → ∃ ρ', Ext ρ ρ' ∧ ICells ρ' (inI F i).1 vs ∧ InOk B ρ' w (applyU h (mkU (inI F i).2.1)) (inI F i).2.2 := by
    intro hp he
    rw [he]
    exact ⟨ρ, Ext.refl ρ, ICells_of_P hp, hi⟩
  cases i
  case d8 l => obtain ⟨v, hv, hr⟩ := hd; exact one hv hr (by simp [PCells])
  case r8 l => obtain ⟨v, hv, hr⟩ := hd; exact one hv hr (by simp [PCells])
  case dI l => obtain ⟨v, hv, hr⟩ := hd; exact one hv hr (by simp [PCells])
  case dN x => obtain ⟨v, hv, hr⟩ := hd; exact one hv hr (by simp [PCells])
  case d32 l => obtain ⟨v, hv, hr⟩ := hd; exact one hv hr (by simp [PCells])
  case dn l => obtain ⟨v, hv, hr⟩ := hd; exact one hv hr (by simp [PCells])
  case dsI ls =>
    obtain ⟨v, inner, rfl, hr, hin⟩ := hd
    obtain ⟨ρ1, e1, s1, i1⟩ := in_innerI ls ρ h F inner hi hin
    obtain ⟨ρ2, e2, s2, i2⟩ := in_slice i1 hr s1
    refine ⟨ρ2, e1.trans e2, s2, ?_⟩
    simp only [inI, mkU_append, applyU_append]
    exact i2
  case ds8 ls =>
    obtain ⟨v, inner, rfl, hr, hin⟩ := hd
    obtain ⟨ρ1, e1, s1, i1⟩ := in_inner8 ls ρ h F inner hi hin
    obtain ⟨ρ2, e2, s2, i2⟩ := in_slice i1 hr s1
    refine ⟨ρ2, e1.trans e2, s2, ?_⟩
    simp only [inI, mkU_append, applyU_append]
    exact i2
  case sl => exact hd.elim
  case ptr => exact hd.elim
  all_goals exact plain hd rfl

theorem in_list {B : Nat} {w : World} : ∀ (l : List IV) (ρ : Nat → Pl) (h : Nat → Option Blk) (F : Nat) (vs : List Value), InOk B ρ w h F → DLs w l vs →
    ∃ ρ', Ext ρ ρ' ∧ LCells ρ' (inL F l).1 vs ∧ InOk B ρ' w (applyU h (mkU (inL F l).2.1)) (inL F l).2.2
  | [], ρ, _, _, _, hi, hd => ⟨ρ, Ext.refl ρ, hd, hi⟩
  | i :: r, ρ, h, F, _, hi, ⟨a, b, hab, ha, hb⟩ => by
    obtain ⟨ρ1, e1, s1, i1⟩ := in_item i ρ h F a hi ha
    obtain ⟨ρ2, e2, s2, i2⟩ := in_list r ρ1 _ _ b i1 hb
    refine ⟨ρ2, e1.trans e2, ⟨a, b, hab, s1.ext e2, s2⟩, ?_⟩
    simp only [inL, mkU_append, applyU_append]
    exact i2

theorem in_args {B : Nat} {w : World} : ∀ (ds : List AV) (ρ : Nat → Pl) (h : Nat → Option Blk) (F : Nat) (vs : List Value), InOk B ρ w h F → F2 (DV w) ds vs →
    ∃ ρ', Ext ρ ρ' ∧ F2 (VRepr ρ') (inAs F ds).1 vs ∧ InOk B ρ' w (applyU h (mkU (inAs F ds).2.1)) (inAs F ds).2.2 := by
  intro ds
  induction ds with
  | nil =>
    intro ρ h F vs hi hv
    match vs, hv with
    | [], _ => exact ⟨ρ, Ext.refl ρ, trivial, hi⟩
  | cons x r ih =>
    intro ρ h F vs hi hv
    match vs, hv with
    | v :: vs, ⟨h1, h2⟩ =>
      cases x
      case val g l =>
        obtain ⟨us, hd, hg⟩ := h1
        obtain ⟨ρ1, e1, s1, i1⟩ := in_list l ρ h F us hi hd
        obtain ⟨ρ2, e2, s2, i2⟩ := ih ρ1 _ _ vs i1 h2
        refine ⟨ρ2, e1.trans e2, ⟨⟨us, s1.ext e2, hg⟩, s2⟩, ?_⟩
        simp only [inAs, mkU_append, applyU_append]
        exact i2
      all_goals exact h1.elim

/-- The state in which a function begins. -/
def entry (n : Nat) (ds : List AV) : St :=
  let a := inAs 0 ds
  ⟨a.1 ++ List.replicate (n - ds.length) (.tup []), a.2.1, a.2.2⟩

theorem hget_mk : ∀ (bs : List (Nat × Blk)) (h : Heap), hget (hup h (mkU bs)) = applyU (hget h) (mkU bs) := fun bs h => hget_hup (mkU bs) h

/-- The blocks, of which each number stands once. -/
def uniq : List (Nat × Blk) → Bool
  | [] => true
  | p :: r => (r.all fun q => !(q.1 == p.1)) && uniq r
theorem hget_uniq : ∀ (bs : List (Nat × Blk)) (h : Nat → Option Blk), uniq bs = true → (∀ p ∈ bs, h p.1 = none) → ∀ k, applyU h (mkU bs) k = match hget bs k with | some b => some b | none => h k := by
  intro bs
  induction bs with
  | nil => intro h _ _ k; rfl
  | cons p r ih =>
    intro h hu hn k
    simp only [uniq, Bool.and_eq_true, List.all_eq_true] at hu
    have hne : ∀ q ∈ r, q.1 ≠ p.1 := fun q hq => by have := hu.1 q hq; simpa using this
    show applyU (updh h p.1 (some p.2)) (mkU r) k = _
    rw [ih (updh h p.1 (some p.2)) hu.2 (fun q hq => by simp only [updh, hne q hq, if_false]; exact hn q (List.mem_cons_of_mem _ hq)) k]
    simp only [hget]
    by_cases e : p.1 = k
    · subst e
      have : hget r p.1 = none := by
        have gen : ∀ (l : List (Nat × Blk)), (∀ q ∈ l, q.1 ≠ p.1) → hget l p.1 = none := by
          intro l
          induction l with
          | nil => intro _; rfl
          | cons q l ihl => intro hl; simp only [hget, hl q (List.mem_cons_self ..), if_false]; exact ihl (fun x hx => hl x (List.mem_cons_of_mem _ hx))
        exact gen r hne
      simp [this, updh]
    · simp only [e, if_false, updh, Ne.symm e]

theorem innerI_ids : ∀ (ls : List (List Int)) (F : Nat), uniq (innerI F ls).2 = true ∧ ∀ p ∈ (innerI F ls).2, F ≤ p.1 ∧ p.1 < F + ls.length
  | [], F => ⟨rfl, fun p hp => by simp [innerI] at hp⟩
  | l :: r, F => by
    obtain ⟨h1, h2⟩ := innerI_ids r (F + 1)
    refine ⟨?_, fun p hp => ?_⟩
    · simp only [innerI, uniq, Bool.and_eq_true, List.all_eq_true]
      refine ⟨fun q hq => ?_, h1⟩
      have := h2 q hq
      simp
      omega
    · simp only [innerI, List.mem_cons] at hp
      rcases hp with rfl | hp
      · simp
      · have := h2 p hp; simp; omega
theorem inner8_ids : ∀ (ls : List (List (BitVec 8))) (F : Nat), uniq (inner8 F ls).2 = true ∧ ∀ p ∈ (inner8 F ls).2, F ≤ p.1 ∧ p.1 < F + ls.length
  | [], F => ⟨rfl, fun p hp => by simp [inner8] at hp⟩
  | l :: r, F => by
    obtain ⟨h1, h2⟩ := inner8_ids r (F + 1)
    refine ⟨?_, fun p hp => ?_⟩
    · simp only [inner8, uniq, Bool.and_eq_true, List.all_eq_true]
      refine ⟨fun q hq => ?_, h1⟩
      have := h2 q hq
      simp
      omega
    · simp only [inner8, List.mem_cons] at hp
      rcases hp with rfl | hp
      · simp
      · have := h2 p hp; simp; omega

theorem uniq_append : ∀ (a b : List (Nat × Blk)), uniq a = true → uniq b = true → (∀ p ∈ a, ∀ q ∈ b, p.1 ≠ q.1) → uniq (a ++ b) = true
  | [], _, _, hb, _ => hb
  | p :: a, b, ha, hb, hd => by
    simp only [uniq, Bool.and_eq_true, List.all_eq_true] at ha
    simp only [List.cons_append, uniq, Bool.and_eq_true, List.all_eq_true]
    refine ⟨fun q hq => ?_, uniq_append a b ha.2 hb (fun x hx => hd x (List.mem_cons_of_mem _ hx))⟩
    rcases List.mem_append.1 hq with hq | hq
    · exact ha.1 q hq
    · have := hd p (List.mem_cons_self ..) q hq
      simp
      omega

theorem inI_ids (i : IV) (F : Nat) : uniq (inI F i).2.1 = true ∧ F ≤ (inI F i).2.2 ∧ ∀ p ∈ (inI F i).2.1, F ≤ p.1 ∧ p.1 < (inI F i).2.2 := by
  cases i
  case dsI ls =>
    obtain ⟨h1, h2⟩ := innerI_ids ls F
    refine ⟨uniq_append _ _ h1 rfl (fun p hp q hq => ?_), by simp [inI]; omega, fun p hp => ?_⟩
    · have := h2 p hp; simp at hq; subst hq; simp; omega
    · simp only [inI, List.mem_append, List.mem_singleton] at hp ⊢
      rcases hp with hp | rfl
      · have := h2 p hp; omega
      · simp
  case ds8 ls =>
    obtain ⟨h1, h2⟩ := inner8_ids ls F
    refine ⟨uniq_append _ _ h1 rfl (fun p hp q hq => ?_), by simp [inI]; omega, fun p hp => ?_⟩
    · have := h2 p hp; simp at hq; subst hq; simp; omega
    · simp only [inI, List.mem_append, List.mem_singleton] at hp ⊢
      rcases hp with hp | rfl
      · have := h2 p hp; omega
      · simp
  all_goals
    refine ⟨rfl, by simp [inI], fun p hp => ?_⟩
    simp [inI] at hp
    try (subst hp; simp [inI])

theorem inL_ids : ∀ (l : List IV) (F : Nat), uniq (inL F l).2.1 = true ∧ F ≤ (inL F l).2.2 ∧ ∀ p ∈ (inL F l).2.1, F ≤ p.1 ∧ p.1 < (inL F l).2.2
  | [], F => ⟨rfl, Nat.le_refl _, fun p hp => by simp [inL] at hp⟩
  | i :: r, F => by
    obtain ⟨a1, a2, a3⟩ := inI_ids i F
    obtain ⟨b1, b2, b3⟩ := inL_ids r (inI F i).2.2
    refine ⟨uniq_append _ _ a1 b1 (fun p hp q hq => ?_), by simp only [inL]; omega, fun p hp => ?_⟩
    · have := a3 p hp; have := b3 q hq; omega
    · simp only [inL, List.mem_append] at hp ⊢
      rcases hp with hp | hp
      · have := a3 p hp; omega
      · have := b3 p hp; omega

theorem inAs_ids : ∀ (l : List AV) (F : Nat), uniq (inAs F l).2.1 = true ∧ F ≤ (inAs F l).2.2 ∧ ∀ p ∈ (inAs F l).2.1, F ≤ p.1 ∧ p.1 < (inAs F l).2.2 := by
  intro l
  induction l with
  | nil => intro F; exact ⟨rfl, Nat.le_refl _, fun p hp => by simp [inAs] at hp⟩
  | cons x r ih =>
    intro F
    cases x
    case val g l =>
      obtain ⟨a1, a2, a3⟩ := inL_ids l F
      obtain ⟨b1, b2, b3⟩ := ih (inL F l).2.2
      refine ⟨uniq_append _ _ a1 b1 (fun p hp q hq => ?_), by simp only [inAs]; omega, fun p hp => ?_⟩
      · have := a3 p hp; have := b3 q hq; omega
      · simp only [inAs, List.mem_append] at hp ⊢
        rcases hp with hp | hp
        · have := a3 p hp; omega
        · have := b3 p hp; omega
    all_goals exact ih F

theorem entry_rel {w : World} {ds : List AV} {vals : List Value} (n : Nat) (hv : F2 (DV w) ds vals) :
    ∃ ρ, Rel w (entry n ds) ρ { tmps := vals.toArray ++ Array.replicate (n - vals.length) undef, defers := [] } w := by
  have h0 : InOk w.heap.size (fun _ => .un) w (fun _ => none) 0 := ⟨⟨fun k b hk => by simp at hk, fun k k' b b' hk => by simp at hk⟩, fun k b hk => by simp at hk, fun k _ => rfl⟩
  obtain ⟨ρ, _, hs, hi⟩ := in_args ds (fun _ => .un) (fun _ => none) 0 vals h0 hv
  have hlen := hv.length
  obtain ⟨u1, _, _⟩ := inAs_ids ds 0
  refine ⟨ρ, rfl, ?_, ?_, Below.refl _ w, fun k hk hu => absurd (hi.free k hk) hu⟩
  · have : (vals.toArray ++ Array.replicate (n - vals.length) undef).toList = vals ++ List.replicate (n - vals.length) undef := by simp
    rw [this, ← hlen]
    refine hs.append ?_
    generalize n - ds.length = m
    induction m with
    | zero => trivial
    | succ m ih => exact ⟨VRepr_undef ρ, ih⟩
  · have he : hget (inAs 0 ds).2.1 = applyU (fun _ => none) (mkU (inAs 0 ds).2.1) := by
      funext k
      rw [hget_uniq _ _ u1 (fun _ _ => rfl) k]
      cases hget (inAs 0 ds).2.1 k <;> rfl
    show HOk _ ρ w (hget (inAs 0 ds).2.1)
    rw [he]
    exact hi.ok

/-! ### What is handed back -/
def ares (P : Program) (σ : St) : List ResultVar → Option (List (Bool × List IV))
  | [] => some []
  | .tmp t :: r => match σ.slots.getD t (.tup []), ares P σ r with
    | .val g l, some m => some ((g, l) :: m)
    | _, _ => none
  | .cell a t :: r => match aload P t (σ.slots.getD a (.tup [])) (hget σ.heap), ares P σ r with
    | some (.val g l, _), some m => some ((g, l) :: m)
    | _, _ => none
def aresV : List (Bool × List IV) → AV
  | [p] => .val p.1 p.2
  | l => .tup l

def oneRes (tmps : Array Value) (x : ResultVar) : Sem Value :=
  match x with
  | .tmp t => pure (tmps.getD t undef)
  | .cell b t => do loadVar t (← asAddr (tmps.getD b undef))

theorem ares_ok {P : Program} {σ : St} {base : World} {ρ : Nat → Pl} {a : Act} {w : World} (hr : Rel base σ ρ a w) : ∀ (l : List ResultVar) (m : List (Bool × List IV)), ares P σ l = some m →
    ∃ vs : List Value, (l.mapM (oneRes a.tmps)).run P w = Result.ok vs w ∧ F2 (VR1 ρ) m vs := by
  intro l
  induction l with
  | nil => intro m h; simp [ares] at h; subst h; exact ⟨[], rfl, trivial⟩
  | cons x l ih =>
    intro m h
    have fin : ∀ (g : Bool) (its : List IV) (m' : List (Bool × List IV)) (v : Value), m = (g, its) :: m' → ares P σ l = some m' → (oneRes a.tmps x).run P w = Result.ok v w → VR1 ρ (g, its) v →
        ∃ vs : List Value, ((x :: l).mapM (oneRes a.tmps)).run P w = Result.ok vs w ∧ F2 (VR1 ρ) m vs := by
      intro g its m' v hm hm' hv hr1
      obtain ⟨vs, h1, h2⟩ := ih m' hm'
      subst hm
      refine ⟨v :: vs, ?_, ⟨hr1, h2⟩⟩
      simp only [List.mapM_cons, Sem.run_bind, hv, Result.andThen_ok, h1, Sem.run_pure]
    cases x with
    | tmp t =>
      simp only [ares] at h
      split at h
      case h_2 => simp at h
      rename_i g its m' hs hm
      simp at h
      have hv := aeval_ok hr.slots (.tmp t)
      have hs' : aeval (toF σ).slots (.tmp t) = .val g its := hs
      rw [hs'] at hv
      exact fin g its m' (a.tmps.getD t undef) h.symm hm rfl hv
    | cell b t =>
      simp only [ares] at h
      split at h
      case h_2 => simp at h
      rename_i g its upd m' hs hm
      simp at h
      have hv := aeval_ok hr.slots (.tmp b)
      have hsl : aeval (toF σ).slots (.tmp b) = σ.slots.getD b (.tup []) := rfl
      rw [hsl] at hv
      have hp : ∃ k off, (σ.slots.getD b (.tup [])).ptr? = some (k, off) := by
        unfold aload at hs
        split at hs
        · exact ⟨_, _, ‹_›⟩
        · simp at hs
      obtain ⟨k, off, hp⟩ := hp
      obtain ⟨L, hL, hvv⟩ := ptr?_ok hp hv
      obtain ⟨r, hrun, _, hval⟩ := aload_run (P := P) hr.heap (fun _ _ h => h) hv hs
      refine fin g its m' r h.symm hm ?_ hval
      have hb : a.tmps.getD b undef = Value.pointer (some ⟨L.block, L.off + off, none⟩) := hvv
      rw [hvv] at hrun
      show (asAddr (a.tmps.getD b undef) >>= fun x => loadVar t x).run P w = _
      rw [hb]
      simpa [Instr.loadAt, Instr.sureAddr, asAddr, Sem.run_bind] using hrun

end Go.Ev
