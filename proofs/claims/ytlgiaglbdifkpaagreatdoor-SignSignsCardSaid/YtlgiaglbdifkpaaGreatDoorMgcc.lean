/- Texts put together: EvC. Own work. -/
import Derived.Test.YtlgiaglbdifkpaaGreatDoorMgcb
import Derived.Laws.Tables
import Derived.Laws.BytesArg
import Derived.Laws.Slices
import Derived.Laws.Cover3
import Derived.Laws.Cells
/- The evaluator's memory, and each operation of the model on it. Own work; no statement of the seat is proved here. -/
namespace Go.Ev
open Go.RowKit

structure Blk where
  own : Bool
  items : List IV
abbrev Upd := List (Nat × Option Blk)
def updh (h : Nat → Option Blk) (k : Nat) (b : Option Blk) : Nat → Option Blk := fun j => if j = k then b else h j
def applyU : (Nat → Option Blk) → Upd → (Nat → Option Blk)
  | h, [] => h
  | h, u :: r => applyU (updh h u.1 u.2) r

/-- A block of one's own lies whole in a block of the world from number B on; another one is read alone. -/
def BlkOk (B : Nat) (ρ : Nat → Pl) (w : World) (k : Nat) (b : Blk) : Prop :=
  match ρ k with
  | .un => False
  | .ph => LCells ρ b.items []
  | .at L => ∃ vs, LCells ρ b.items vs ∧
      (b.own = true → L.off = 0 ∧ B ≤ L.block ∧ ∃ (cells : Array Value) (ty : TypeId), w.heap[L.block]? = some (.cells cells ty (0, 0)) ∧ cells.size = L.size ∧ vs.length ≤ cells.size ∧ cells.toList.take vs.length = vs) ∧
      (b.own = false → L.block < w.heap.size ∧ ∀ i v, vs[i]? = some v → w.cell? ⟨L.block, L.off + i, none⟩ = some v)

structure HOk (B : Nat) (ρ : Nat → Pl) (w : World) (h : Nat → Option Blk) : Prop where
  blk : ∀ k b, h k = some b → BlkOk B ρ w k b
  inj : ∀ k k' b b', h k = some b → h k' = some b' → k ≠ k' → b.own = true → ∀ L L', ρ k = .at L → ρ k' = .at L' → L.block ≠ L'.block

theorem BlkOk.un {B : Nat} {ρ : Nat → Pl} {w : World} {k : Nat} {b : Blk} (h : BlkOk B ρ w k b) : ρ k ≠ .un := by
  intro e
  simp [BlkOk, e] at h

theorem BlkOk.size {B : Nat} {ρ : Nat → Pl} {w : World} {k : Nat} {b : Blk} (h : BlkOk B ρ w k b) {L : Loc} (hL : ρ k = .at L) : L.block < w.heap.size := by
  simp only [BlkOk, hL] at h
  obtain ⟨vs, _, h1, h2⟩ := h
  cases ho : b.own with
  | true => obtain ⟨_, _, cells, ty, hc, _⟩ := h1 ho; exact (Array.getElem?_eq_some_iff.1 hc).1
  | false => exact (h2 ho).1

theorem BlkOk.cells {B : Nat} {ρ : Nat → Pl} {w : World} {k : Nat} {b : Blk} (h : BlkOk B ρ w k b) {L : Loc} (hL : ρ k = .at L) :
    ∃ vs, LCells ρ b.items vs ∧ ∀ i v, vs[i]? = some v → w.cell? ⟨L.block, L.off + i, none⟩ = some v := by
  simp only [BlkOk, hL] at h
  obtain ⟨vs, hv, h1, h2⟩ := h
  refine ⟨vs, hv, ?_⟩
  cases ho : b.own with
  | true =>
    obtain ⟨h0, _, cells, ty, hc, _, hle, ht⟩ := h1 ho
    intro i v hi
    rw [h0, Nat.zero_add, cell_of_row w L.block i cells ty (0, 0) hc]
    rw [← ht, List.getElem?_take] at hi
    split at hi
    · simpa using hi
    · simp at hi
  | false => exact (h2 ho).2

theorem BlkOk.ext {B : Nat} {ρ ρ' : Nat → Pl} {w : World} {k : Nat} {b : Blk} (he : Ext ρ ρ') (h : BlkOk B ρ w k b) : BlkOk B ρ' w k b := by
  have hu := h.un
  unfold BlkOk at h ⊢
  rw [he k hu]
  split
  · rename_i e; exact absurd e hu
  · rename_i e; simp only [e] at h; exact h.ext he
  · rename_i L e; simp only [e] at h; obtain ⟨vs, h0, h1, h2⟩ := h; exact ⟨vs, h0.ext he, h1, h2⟩

theorem HOk.ext {B : Nat} {ρ ρ' : Nat → Pl} {w : World} {h : Nat → Option Blk} (he : Ext ρ ρ') (hh : HOk B ρ w h) : HOk B ρ' w h :=
  ⟨fun k b hk => (hh.blk k b hk).ext he, fun k k' b b' hk hk' hne ho L L' hL hL' => by
    rw [he k (hh.blk k b hk).un] at hL
    rw [he k' (hh.blk k' b' hk').un] at hL'
    exact hh.inj k k' b b' hk hk' hne ho L L' hL hL'⟩

/-- Worlds in which nothing that was there has turned. -/
theorem BlkOk.below {B : Nat} {ρ : Nat → Pl} {w w' : World} {k : Nat} {b : Blk} (hb : ∀ i, i < w.heap.size → w'.heap[i]? = w.heap[i]?) (hs : w.heap.size ≤ w'.heap.size) (h : BlkOk B ρ w k b) : BlkOk B ρ w' k b := by
  unfold BlkOk at h ⊢
  split
  · rename_i e; simp only [e] at h
  · rename_i e; simp only [e] at h; exact h
  · rename_i L e
    simp only [e] at h
    obtain ⟨vs, h0, h1, h2⟩ := h
    refine ⟨vs, h0, fun ho => ?_, fun ho => ?_⟩
    · obtain ⟨a, c, cells, ty, hc, r⟩ := h1 ho
      exact ⟨a, c, cells, ty, by rw [hb _ (Array.getElem?_eq_some_iff.1 hc).1]; exact hc, r⟩
    · obtain ⟨a, c⟩ := h2 ho
      exact ⟨Nat.lt_of_lt_of_le a hs, fun i v hi => (World.cell?_of_block (hb _ a)).trans (c i v hi)⟩

theorem HOk.below {B : Nat} {ρ : Nat → Pl} {w w' : World} {h : Nat → Option Blk} (hb : ∀ i, i < w.heap.size → w'.heap[i]? = w.heap[i]?) (hs : w.heap.size ≤ w'.heap.size) (hh : HOk B ρ w h) : HOk B ρ w' h :=
  ⟨fun k b hk => (hh.blk k b hk).below hb hs, hh.inj⟩

theorem HOk.drew {B : Nat} {ρ : Nat → Pl} {w : World} {h : Nat → Option Blk} (hh : HOk B ρ w h) : HOk B ρ w.drew h := HOk.below (w := w) (w' := w.drew) (fun _ _ => rfl) (Nat.le_refl w.heap.size) hh

/-- Fewer blocks. -/
theorem HOk.sub {B : Nat} {ρ : Nat → Pl} {w : World} {h h' : Nat → Option Blk} (hh : HOk B ρ w h) (hs : ∀ k b, h' k = some b → h k = some b) : HOk B ρ w h' :=
  ⟨fun k b hk => hh.blk k b (hs k b hk), fun k k' b b' hk hk' => hh.inj k k' b b' (hs k b hk) (hs k' b' hk')⟩

def updρ (ρ : Nat → Pl) (k : Nat) (p : Pl) : Nat → Pl := fun j => if j = k then p else ρ j
theorem updρ_same (ρ : Nat → Pl) (k : Nat) (p : Pl) : updρ ρ k p k = p := by simp [updρ]
theorem updρ_other (ρ : Nat → Pl) (k : Nat) (p : Pl) {j : Nat} (h : j ≠ k) : updρ ρ k p j = ρ j := by simp [updρ, h]
theorem ext_updρ {ρ : Nat → Pl} {k : Nat} (h : ρ k = .un) (p : Pl) : Ext ρ (updρ ρ k p) := fun j hj => by
  by_cases e : j = k
  · subst e; exact absurd h hj
  · exact updρ_other ρ k p e

/-- One block more, that lies in no block of the others. -/
theorem HOk.add {B : Nat} {ρ : Nat → Pl} {w w' : World} {h : Nat → Option Blk} (hh : HOk B ρ w h) {F : Nat} (hF : ρ F = .un) (p : Pl) (b : Blk)
    (hb : ∀ i, i < w.heap.size → w'.heap[i]? = w.heap[i]?) (hs : w.heap.size ≤ w'.heap.size) (hnew : ∀ L, p = .at L → w.heap.size ≤ L.block)
    (hblk : BlkOk B (updρ ρ F p) w' F b) : HOk B (updρ ρ F p) w' (updh h F (some b)) := by
  have he := ext_updρ hF p
  have h1 := (hh.below hb hs).ext he
  refine ⟨fun k c hk => ?_, fun k k' c c' hk hk' hne ho L L' hL hL' => ?_⟩
  · by_cases e : k = F
    · subst e; simp [updh] at hk; subst hk; exact hblk
    · simp [updh, e] at hk; exact h1.blk k c hk
  · by_cases e : k = F <;> by_cases e' : k' = F
    · omega
    · subst e
      simp [updh, e'] at hk'
      rw [updρ_same] at hL
      rw [updρ_other _ _ _ e'] at hL'
      have := (hh.blk k' c' hk').size hL'
      have := hnew L hL
      omega
    · subst e'
      simp [updh, e] at hk
      rw [updρ_same] at hL'
      rw [updρ_other _ _ _ e] at hL
      have := (hh.blk k c hk).size hL
      have := hnew L' hL'
      omega
    · simp [updh, e] at hk
      simp [updh, e'] at hk'
      exact h1.inj k k' c c' hk hk' hne ho L L' hL hL'

/-- What an operation leaves. -/
def Post (B : Nat) (ρ : Nat → Pl) (w : World) (h : Nat → Option Blk) (F : Nat) (x : AV) (upd : Upd) (v : Value) (w' : World) : Prop :=
  ∃ ρ', Ext ρ ρ' ∧ (∀ k, ρ k = .un → ρ' k ≠ .un → F ≤ k ∧ k < F + 16) ∧ VRepr ρ' x v ∧ HOk B ρ' w' (applyU h upd) ∧ Below B w w'

theorem Post.pure {B : Nat} {ρ : Nat → Pl} {w : World} {h : Nat → Option Blk} {F : Nat} {x : AV} {v : Value} (hh : HOk B ρ w h) (hv : VRepr ρ x v) : Post B ρ w h F x [] v w :=
  ⟨ρ, Ext.refl ρ, fun _ a b => absurd a b, hv, hh, Below.refl B w⟩

/-! ### Types -/
def szT (P : Program) (t : TypeId) : Option Nat := (P.info? t).map (·.size)
def byT (P : Program) (t : TypeId) : Option Nat := (P.info? t).map (·.bytes)
def aggT (P : Program) (t : TypeId) : Option Bool :=
  match P.underlying t with
  | some (.struct _) | some (.array _ _) => some true
  | some _ => some false
  | none => none
def arrT (P : Program) (t : TypeId) : Option (Nat × TypeId) :=
  match P.underlying t with
  | some (.array n e) => some (n, e)
  | _ => none
def slT (P : Program) (t : TypeId) : Option TypeId :=
  match P.underlying t with
  | some (.slice e) => some e
  | _ => none
def intT (P : Program) (t : TypeId) : Option IntKind :=
  match P.underlying t with
  | some (.int k) => some k
  | _ => none
def strT (P : Program) (t : TypeId) : Bool :=
  match P.underlying t with
  | some .string => true
  | _ => false
/-- Words, of which four may stand together. -/
def words? : List IV → Option (List (BitVec 64))
  | [] => some []
  | .u64 x :: r => (words? r).map (x :: ·)
  | .n4 a :: r => (words? r).map (a.words ++ ·)
  | _ => none
/-- An array of more than eight words is one list. -/
def wideT (P : Program) (t : TypeId) : Bool :=
  match arrT P t with
  | some (n, e) => match intT P e with
    | some .u64 => decide (8 < n)
    | _ => false
  | none => false
def wideA (P : Program) (t : TypeId) (x : AV) : AV :=
  match x with
  | .val true l => if wideT P t then match words? l with
      | some m => .val true [.v64 m.length m]
      | none => .val true l
    else .val true l
  | x => x
theorem words?_ok {ρ : Nat → Pl} : ∀ {l : List IV} {m : List (BitVec 64)} {vs : List Value}, words? l = some m → LCells ρ l vs → vs = m.map wordVal
  | [], m, vs, h, hL => by simp [words?] at h; subst h; exact hL
  | .u64 x :: r, m, vs, h, ⟨a, b, hab, ha, hb⟩ => by
    simp only [words?] at h
    cases hr : words? r with
    | none => simp [hr] at h
    | some m' =>
      simp [hr] at h
      subst h
      simp only [ICells, PCells, Option.some.injEq] at ha
      rw [hab, ← ha, words?_ok hr hb]
      rfl
  | .n4 x :: r, m, vs, h, ⟨a, b, hab, ha, hb⟩ => by
    simp only [words?] at h
    cases hr : words? r with
    | none => simp [hr] at h
    | some m' =>
      simp [hr] at h
      subst h
      simp only [ICells, PCells, Option.some.injEq] at ha
      rw [hab, ← ha, words?_ok hr hb]
      simp [N4.words, n4Vals]
theorem wideA_ok {P : Program} {t : TypeId} {ρ : Nat → Pl} {x : AV} {v : Value} (h : VRepr ρ x v) : VRepr ρ (wideA P t x) v := by
  unfold wideA
  split
  · rename_i l
    split
    · split
      · rename_i m hm
        obtain ⟨vs, h1, h2⟩ := h
        refine ⟨vs, LCells_single ?_, h2⟩
        simp only [ICells, PCells, if_true, Option.some.injEq]
        exact (words?_ok hm h1).symm
      · exact h
    · exact h
  · exact h
/-- A type's zero value. -/
def zT (P : Program) (t : TypeId) : Option AV :=
  match P.info? t with
  | some i => match i.zero with
    | some z => (avOf z).map (wideA P t)
    | none => none
  | none => none
/-- Where a struct's field lies: its first cell, and its type. -/
def fieldT (P : Program) (t : TypeId) (f : Nat) : Option (Nat × TypeId) :=
  match P.underlying t with
  | some (.struct fs) => match fs[f]? with
    | some x => match P.info? x.type with
      | some i => if i.size = 0 then none else some (x.offset, x.type)
      | none => none
    | none => none
  | _ => none

theorem szT_ok {P : Program} {t : TypeId} {n : Nat} (h : szT P t = some n) : ∃ i, P.info? t = some i ∧ i.size = n := by
  unfold szT at h
  cases hi : P.info? t with
  | none => simp [hi] at h
  | some i => simp [hi] at h; exact ⟨i, rfl, h⟩
theorem run_sizeT {P : Program} {t : TypeId} {n : Nat} (h : szT P t = some n) (w : World) : (sizeOf t).run P w = .ok n w := by
  obtain ⟨i, hi, rfl⟩ := szT_ok h
  simp [sizeOf, typeInfo, hi]
theorem run_aggT {P : Program} {t : TypeId} {b : Bool} (h : aggT P t = some b) (w : World) : (isAgg t).run P w = .ok b w := by
  unfold aggT at h
  unfold isAgg
  cases hd : P.underlying t with
  | none => simp [hd] at h
  | some d =>
    rw [Sem.run_bind, run_underlying hd]
    cases d <;> simp [hd] at h <;> subst h <;> rfl
theorem slT_ok {P : Program} {t e : TypeId} (h : slT P t = some e) : P.underlying t = some (.slice e) := by
  unfold slT at h
  split at h
  · rename_i e' he; simp at h; subst h; exact he
  · simp at h
theorem arrT_ok {P : Program} {t e : TypeId} {n : Nat} (h : arrT P t = some (n, e)) : P.underlying t = some (.array n e) := by
  unfold arrT at h
  split at h
  · rename_i n' e' he; simp at h; obtain ⟨rfl, rfl⟩ := h; exact he
  · simp at h
theorem intT_ok {P : Program} {t : TypeId} {k : IntKind} (h : intT P t = some k) : P.underlying t = some (.int k) := by
  unfold intT at h
  split at h
  · rename_i k' he; simp at h; subst h; exact he
  · simp at h
theorem strT_ok {P : Program} {t : TypeId} (h : strT P t = true) : P.underlying t = some .string := by
  unfold strT at h
  split at h
  · rename_i he; exact he
  · simp at h
theorem zT_ok {P : Program} {t : TypeId} {x : AV} (h : zT P t = some x) : ∃ i z, P.info? t = some i ∧ i.zero = some z ∧ ∀ ρ, VRepr ρ x z := by
  unfold zT at h
  split at h
  · rename_i i hi
    split at h
    · rename_i z hz
      cases hz' : avOf z with
      | none => simp [hz'] at h
      | some y => simp [hz'] at h; subst h; exact ⟨i, z, hi, hz, fun ρ => wideA_ok (avOf_ok hz')⟩
    · simp at h
  · simp at h

theorem Addr_add_at (b o n : Nat) : Addr.add ⟨b, o, none⟩ n = ⟨b, o + n, none⟩ := Addr.add_lit b o n

/-! ### Getting at an item -/
def AV.one? : AV → Option IV
  | .val false [i] => some i
  | _ => none
theorem one?_ok {x : AV} {i : IV} (h : x.one? = some i) : x = sc i := by
  unfold AV.one? at h
  split at h
  · simp at h; subst h; rfl
  · simp at h
theorem one?_cells {ρ : Nat → Pl} {x : AV} {i : IV} {v : Value} (h : x.one? = some i) (hv : VRepr ρ x v) : ICells ρ i [v] := by
  rw [one?_ok h] at hv
  exact VRepr_sc.1 hv

def AV.ptr? (x : AV) : Option (Nat × Nat) :=
  match x.one? with
  | some (.ptr k off) => some (k, off)
  | _ => none
theorem ptr?_ok {ρ : Nat → Pl} {x : AV} {k off : Nat} {v : Value} (h : x.ptr? = some (k, off)) (hv : VRepr ρ x v) :
    ∃ L, ρ k = .at L ∧ v = .pointer (some ⟨L.block, L.off + off, none⟩) := by
  unfold AV.ptr? at h
  split at h
  · rename_i k' off' h1
    simp at h
    obtain ⟨rfl, rfl⟩ := h
    obtain ⟨L, hL, e⟩ := one?_cells h1 hv
    simp at e
    exact ⟨L, hL, e⟩
  · simp at h

/-! ### Loads and stores -/
/-- Several cells that are loaded; of a row of numbers, one number. -/
def loadR (items : List IV) (off n : Nat) : Option (List IV) :=
  match items, n with
  | [.vn m l], 4 => if off % 4 = 0 ∧ off + 4 ≤ 4 * m then some [.n4 (l.getD (off / 4) N4.zero)] else none
  | items, n => getRange items off n
theorem loadR_ok {ρ : Nat → Pl} {l m : List IV} {off n : Nat} {vs : List Value} (h : LCells ρ l vs) (hg : loadR l off n = some m) : off + n ≤ vs.length ∧ LCells ρ m ((vs.drop off).take n) := by
  unfold loadR at hg
  split at hg
  · rename_i k q
    split at hg <;> simp at hg
    rename_i hc
    subst hg
    have hl := LCells_length h
    simp only [lsize, IV.size, Nat.add_zero] at hl
    refine ⟨by omega, LCells_single (partIn_ok (i := .vn k q) (LCells_of_single h) (by simp only [IV.size]; omega) ?_)⟩
    simp [partIn, hc.1]
  · exact getRange_ok h hg
def aload (P : Program) (t : TypeId) (x : AV) (get : Nat → Option Blk) : Option (AV × Upd) :=
  match x.ptr? with
  | some (k, off) =>
    match get k, aggT P t, szT P t with
    | some b, some true, some n => (loadR b.items off n).map fun l => (.val true l, [])
    | some b, some false, some _ => (getCell b.items off).map fun c => (sc c, [])
    | _, _, _ => none
  | none => none

theorem run_loadCells_seg {P : Program} (w : World) (blk o : Nat) (cs : List Value) (h : ∀ i v, cs[i]? = some v → w.cell? ⟨blk, o + i, none⟩ = some v) :
    (loadCells ⟨blk, o, none⟩ cs.length).run P w = .ok cs.toArray w :=
  run_loadCells_list w _ cs fun j v hj => by rw [Addr_add_at]; exact h j v hj

theorem seg_cells {vs : List Value} {off n : Nat} {w : World} {blk o : Nat} (h : ∀ i v, vs[i]? = some v → w.cell? ⟨blk, o + i, none⟩ = some v) :
    ∀ i v, ((vs.drop off).take n)[i]? = some v → w.cell? ⟨blk, o + off + i, none⟩ = some v := by
  intro i v hi
  rw [List.getElem?_take] at hi
  split at hi
  · rw [List.getElem?_drop] at hi
    rw [Nat.add_assoc]
    exact h _ _ hi
  · simp at hi

theorem aload_run {P : Program} {B : Nat} {ρ : Nat → Pl} {w : World} {h : Nat → Option Blk} {t : TypeId} {x y : AV} {upd : Upd} {get : Nat → Option Blk} {v : Value}
    (hh : HOk B ρ w h) (hg : ∀ k b, get k = some b → h k = some b) (hx : VRepr ρ x v) (ha : aload P t x get = some (y, upd)) :
    ∃ r, (Instr.loadAt t v).run P w = .ok r w ∧ upd = [] ∧ VRepr ρ y r := by
  unfold aload at ha
  split at ha
  case h_2 => simp at ha
  rename_i k off hp
  obtain ⟨L, hL, rfl⟩ := ptr?_ok hp hx
  split at ha
  case h_3 => simp at ha
  · rename_i b n hk hag hsz
    cases hr : loadR b.items off n with
    | none => simp [hr] at ha
    | some l =>
      simp [hr] at ha
      obtain ⟨rfl, rfl⟩ := ha
      obtain ⟨vs, hv, hc⟩ := (hh.blk k b (hg k b hk)).cells hL
      obtain ⟨h1, h2⟩ := loadR_ok hv hr
      have hlen : ((vs.drop off).take n).length = n := by simp; omega
      have hload := run_loadCells_seg (P := P) w L.block (L.off + off) _ (seg_cells (n := n) hc)
      rw [hlen] at hload
      refine ⟨.agg ((vs.drop off).take n).toArray, ?_, rfl, ⟨_, h2, by simp⟩⟩
      simp only [Instr.loadAt, Instr.sureAddr, Sem.run_bind, Sem.run_pure, Result.andThen_ok, loadVar, run_aggT hag, run_sizeT hsz, if_true, hload]
  · rename_i b n hk hag hsz
    cases hr : getCell b.items off with
    | none => simp [hr] at ha
    | some c =>
      simp [hr] at ha
      obtain ⟨rfl, rfl⟩ := ha
      obtain ⟨vs, hv, hc⟩ := (hh.blk k b (hg k b hk)).cells hL
      obtain ⟨u, h1, h2⟩ := getCell_ok hv hr
      have hcell := hc off u h1
      refine ⟨u, ?_, rfl, VRepr_sc.2 h2⟩
      simp only [Instr.loadAt, Instr.sureAddr, Sem.run_bind, Sem.run_pure, Result.andThen_ok, loadVar, run_aggT hag, Bool.false_eq_true, if_false, run_load, hcell]

theorem aload_sound {P : Program} {B : Nat} {ρ : Nat → Pl} {w : World} {h : Nat → Option Blk} {F : Nat} {t : TypeId} {x y : AV} {upd : Upd} {get : Nat → Option Blk} {v : Value}
    (hh : HOk B ρ w h) (hg : ∀ k b, get k = some b → h k = some b) (hx : VRepr ρ x v) (ha : aload P t x get = some (y, upd)) :
    ∃ r w', (Instr.loadAt t v).run P w = .ok r w' ∧ Post B ρ w h F y upd r w' := by
  obtain ⟨r, h1, rfl, h2⟩ := aload_run hh hg hx ha
  exact ⟨r, w, h1, Post.pure hh h2⟩

def astore (P : Program) (t : TypeId) (x y : AV) (get : Nat → Option Blk) : Option (AV × Upd) :=
  match x.ptr? with
  | some (k, off) =>
    match get k with
    | some b =>
      if b.own then
        match szT P t, y with
        | some n, .val true l => if lsize l = n then (setRange b.items off l).map fun m => (.tup [], [(k, some ⟨true, m⟩)]) else none
        | some n, .val false [c] => if n = 1 then (setCell b.items off c).map fun m => (.tup [], [(k, some ⟨true, m⟩)]) else none
        | _, _ => none
      else none
    | none => none
  | none => none

theorem take_of_take {α : Type} {l vs nv : List α} {off : Nat} (hl : l.take vs.length = vs) (hle : vs.length ≤ l.length) (ho : off + nv.length ≤ vs.length) :
    (l.take off ++ nv ++ l.drop (off + nv.length)).take (vs.take off ++ nv ++ vs.drop (off + nv.length)).length = vs.take off ++ nv ++ vs.drop (off + nv.length) := by
  have h1 : l = vs ++ l.drop vs.length := by rw [← hl, List.length_take, Nat.min_eq_left hle]; simp
  have hlen : (vs.take off ++ nv ++ vs.drop (off + nv.length)).length = vs.length := by simp; omega
  rw [hlen]
  have e1 : l.take off = vs.take off := by rw [h1, List.take_append_of_le_length (by omega)]
  have e2 : l.drop (off + nv.length) = vs.drop (off + nv.length) ++ l.drop vs.length := by
    conv => lhs; rw [h1]
    rw [List.drop_append_of_le_length (by omega)]
  rw [e1, e2, ← List.append_assoc, List.take_append_of_le_length (by rw [hlen]; exact Nat.le_refl _), List.take_of_length_le (by rw [hlen]; exact Nat.le_refl _)]

/-- Cells of a block of one's own are written. -/
theorem HOk.write {P : Program} {B : Nat} {ρ : Nat → Pl} {w : World} {h : Nat → Option Blk} {k off : Nat} {b : Blk} {L : Loc} {m : List IV} {nv : List Value}
    (hh : HOk B ρ w h) (hk : h k = some b) (ho : b.own = true) (hL : ρ k = .at L)
    (hm : ∀ vs, LCells ρ b.items vs → off + nv.length ≤ vs.length ∧ LCells ρ m (vs.take off ++ nv ++ vs.drop (off + nv.length))) (h1 : ∀ v ∈ nv, v.oneCell' = true) :
    ∃ w', (storeCells ⟨L.block, L.off + off, none⟩ nv).run P w = .ok () w' ∧ HOk B ρ w' (updh h k (some ⟨true, m⟩)) ∧ Below B w w' ∧ w'.heap.size = w.heap.size := by
  have hb := hh.blk k b hk
  simp only [BlkOk, hL] at hb
  obtain ⟨vs, hv, hown, _⟩ := hb
  obtain ⟨h0, hB, cells, ty, hc, hsz, hle, ht⟩ := hown ho
  obtain ⟨hfit, hm'⟩ := hm vs hv
  have hst := run_storeCells_at P L.block off ty nv 0 cells w hc (by omega) h1
  simp only [Nat.add_zero] at hst
  rw [h0, Nat.zero_add]
  refine ⟨_, hst, ⟨fun j c hj => ?_, fun j j' c c' hj hj' hne hoc Lj Lj' hLj hLj' => ?_⟩, below_setRow (Below.refl B w) hB _, by simp [World.setRow]⟩
  · by_cases e : j = k
    · subst e
      simp [updh] at hj
      subst hj
      simp only [BlkOk, hL]
      refine ⟨_, hm', fun _ => ⟨h0, hB, _, ty, setRow_heap w L.block cells _ ty (0, 0) hc, ?_, ?_, ?_⟩, fun e => by simp at e⟩
      · simp; omega
      · simp; omega
      · exact take_of_take ht (by simpa using hle) hfit
    · simp [updh, e] at hj
      have hbj := hh.blk j c hj
      unfold BlkOk at hbj ⊢
      split
      · rename_i e'; simp only [e'] at hbj
      · rename_i e'; simp only [e'] at hbj; exact hbj
      · rename_i Lj e'
        simp only [e'] at hbj
        have hne := hh.inj k j b c hk hj (Ne.symm e) ho L Lj hL e'
        obtain ⟨us, hu, u1, u2⟩ := hbj
        refine ⟨us, hu, fun hoj => ?_, fun hoj => ?_⟩
        · obtain ⟨a1, a2, cs, ty', hcs, r⟩ := u1 hoj
          exact ⟨a1, a2, cs, ty', by rw [setRow_other _ _ _ _ (Ne.symm hne)]; exact hcs, r⟩
        · obtain ⟨a1, a2⟩ := u2 hoj
          refine ⟨by simpa [World.setRow] using a1, fun i v hi => ?_⟩
          rw [cell_setRow_other _ _ _ _ (Ne.symm hne)]
          exact a2 i v hi
  · have sub : ∀ j c, updh h k (some ⟨true, m⟩) j = some c → ∃ c0, h j = some c0 ∧ c0.own = c.own := by
      intro j c hj
      by_cases e : j = k
      · subst e; simp [updh] at hj; subst hj; exact ⟨b, hk, ho⟩
      · simp [updh, e] at hj; exact ⟨c, hj, rfl⟩
    obtain ⟨c0, hc0, e0⟩ := sub j c hj
    obtain ⟨c0', hc0', _⟩ := sub j' c' hj'
    exact hh.inj j j' c0 c0' hc0 hc0' hne (by rw [e0]; exact hoc) Lj Lj' hLj hLj'

theorem run_storeAt {P : Program} {w w' : World} {t : TypeId} {n : Nat} (a : Addr) (v : Value) (hsz : szT P t = some n) (hn : v.cells.size = n)
    (h : (storeCells a v.cells.toList).run P w = .ok () w') : (Instr.storeAt t (.pointer (some a)) v).run P w = .ok () w' := by
  simp only [Instr.storeAt, Instr.sureAddr, Sem.run_bind, Sem.run_pure, Result.andThen_ok, storeVar, run_sizeT hsz, hn, ne_eq, not_true_eq_false, if_false, h]

theorem astore_sound {P : Program} {B : Nat} {ρ : Nat → Pl} {w : World} {h : Nat → Option Blk} {F : Nat} {t : TypeId} {x y z : AV} {upd : Upd} {get : Nat → Option Blk} {v u : Value}
    (hh : HOk B ρ w h) (hg : ∀ k b, get k = some b → h k = some b) (hx : VRepr ρ x v) (hy : VRepr ρ y u) (ha : astore P t x y get = some (z, upd)) :
    ∃ w', (Instr.storeAt t v u).run P w = .ok () w' ∧ Post B ρ w h F z upd undef w' := by
  unfold astore at ha
  split at ha
  case h_2 => simp at ha
  rename_i k off hp
  obtain ⟨L, hL, rfl⟩ := ptr?_ok hp hx
  split at ha
  case h_2 => simp at ha
  rename_i b hk
  split at ha
  case isFalse => simp at ha
  rename_i ho
  split at ha
  case h_3 => simp at ha
  · rename_i n l hsz
    split at ha
    case isFalse => simp at ha
    rename_i hn
    cases hr : setRange b.items off l with
    | none => simp [hr] at ha
    | some m =>
      simp [hr] at ha
      obtain ⟨rfl, rfl⟩ := ha
      obtain ⟨nv, hnv, hu⟩ := hy
      simp at hu
      subst hu
      obtain ⟨w', h1, h2, h3, h4⟩ := hh.write (P := P) (off := off) (m := m) (nv := nv) (hg k b hk) ho hL (fun vs hv => setRange_ok hv hnv hr) (LCells_one hnv)
      have hlen : nv.length = lsize l := LCells_length hnv
      exact ⟨w', run_storeAt _ _ hsz (by simp [Value.cells]; omega) (by simpa [Value.cells] using h1), ρ, Ext.refl ρ, fun _ a b => absurd a b, VRepr_undef ρ, h2, h3⟩
  · rename_i n c hsz
    split at ha
    case isFalse => simp at ha
    rename_i hn
    subst hn
    cases hr : setCell b.items off c with
    | none => simp [hr] at ha
    | some m =>
      simp [hr] at ha
      obtain ⟨rfl, rfl⟩ := ha
      have hc := VRepr_sc.1 hy
      obtain ⟨w', h1, h2, h3, h4⟩ := hh.write (P := P) (off := off) (m := m) (nv := [u]) (hg k b hk) ho hL (fun vs hv => by
        obtain ⟨a1, a2⟩ := setCell_ok hv hc hr
        refine ⟨by simp; omega, ?_⟩
        have : vs.take off ++ [u] ++ vs.drop (off + [u].length) = vs.set off u := by
          rw [List.set_eq_take_append_cons_drop, if_pos a1]; simp
        rw [this]; exact a2) (ICells_one hc)
      have hu1 : u.cells = #[u] := by
        have := ICells_one hc u (by simp)
        cases u <;> first | rfl | (simp [Value.oneCell'] at this)
      exact ⟨w', run_storeAt _ _ hsz (by rw [hu1]; rfl) (by rw [hu1]; exact h1), ρ, Ext.refl ρ, fun _ a b => absurd a b, VRepr_undef ρ, h2, h3⟩

/-! ### New memory -/
theorem size_alloc (w : World) (o : Obj) : (w.alloc o).heap.size = w.heap.size + 1 := World.size_alloc w o

/-- A new row of cells, of which the first ones are known. -/
theorem Post.row {B : Nat} {ρ : Nat → Pl} {w w' : World} {h : Nat → Option Blk} {F : Nat} (hh : HOk B ρ w h) (hF : ρ F = .un) (hB : B ≤ w.heap.size)
    (cells : Array Value) (ty : TypeId) (items : List IV) (vs : List Value) (hit : LCells ρ items vs) (hle : vs.length ≤ cells.size) (ht : cells.toList.take vs.length = vs)
    (hw : w' = w.alloc (.cells cells ty) ∨ w' = w.drew.alloc (.cells cells ty)) (x : AV) (v : Value)
    (hx : VRepr (updρ ρ F (.at ⟨w.heap.size, 0, cells.size⟩)) x v) : Post B ρ w h F x [(F, some ⟨true, items⟩)] v w' := by
  have hold : ∀ i, i < w.heap.size → w'.heap[i]? = w.heap[i]? := by
    intro i hi
    rcases hw with rfl | rfl
    · exact Go.heap_alloc_old w _ i hi
    · exact Go.heap_alloc_old w.drew _ i hi
  have hnew : w'.heap[w.heap.size]? = some (.cells cells ty) := by
    rcases hw with rfl | rfl
    · exact Go.heap_alloc_new w _
    · exact Go.heap_alloc_new w.drew _
  have hsize : w.heap.size ≤ w'.heap.size := by
    rcases hw with rfl | rfl
    · rw [size_alloc]; omega
    · rw [size_alloc]; show w.heap.size ≤ w.heap.size + 1; omega
  have hbel : Below B w w' := by
    rcases hw with rfl | rfl
    · exact (Below.refl B w).alloc hB _
    · exact (Below.refl B w).drew.alloc hB _
  have he := ext_updρ hF (.at ⟨w.heap.size, 0, cells.size⟩)
  refine ⟨_, he, ?_, hx, ?_, hbel⟩
  · intro k hk hk'
    by_cases e : k = F
    · omega
    · rw [updρ_other _ _ _ e] at hk'; exact absurd hk hk'
  · refine hh.add hF _ _ hold hsize (fun L hL => by simp at hL; subst hL; exact Nat.le_refl _) ?_
    simp only [BlkOk, updρ_same]
    exact ⟨vs, hit.ext he, fun _ => ⟨trivial, hB, cells, ty, hnew, rfl, hle, ht⟩, fun e => by simp at e⟩

theorem ptr_new (ρ : Nat → Pl) (F : Nat) (L : Loc) : VRepr (updρ ρ F (.at L)) (sc (.ptr F 0)) (.pointer (some ⟨L.block, L.off, none⟩)) :=
  VRepr_sc.2 ⟨L, updρ_same _ _ _, by simp⟩

def aalloc (P : Program) (t : TypeId) (F : Nat) : Option (AV × Upd) :=
  match zT P t with
  | some (.val _ l) => some (sc (.ptr F 0), [(F, some ⟨true, l⟩)])
  | _ => none

theorem val_cells {ρ : Nat → Pl} {g : Bool} {l : List IV} {v : Value} (h : VRepr ρ (.val g l) v) : LCells ρ l v.cells.toList := by
  obtain ⟨vs, h1, h2⟩ := h
  cases g
  · simp at h2
    subst h2
    have := LCells_one h1 v (by simp)
    have hc : v.cells = #[v] := by cases v <;> first | rfl | (simp [Value.oneCell'] at this)
    rw [hc]; exact h1
  · simp at h2
    subst h2
    exact h1

theorem aalloc_sound {P : Program} {B : Nat} {ρ : Nat → Pl} {w : World} {h : Nat → Option Blk} {F : Nat} {t : TypeId} {y : AV} {upd : Upd}
    (hh : HOk B ρ w h) (hF : ρ F = .un) (hB : B ≤ w.heap.size) (ha : aalloc P t F = some (y, upd)) :
    ∃ r w', (Instr.alloc t true (.tuple #[])).run P w = .ok r w' ∧ Post B ρ w h F y upd r w' := by
  unfold aalloc at ha
  split at ha
  case h_2 => simp at ha
  rename_i g l hz
  simp at ha
  obtain ⟨rfl, rfl⟩ := ha
  obtain ⟨i, z, hi, hz', hav⟩ := zT_ok hz
  have hcell := val_cells (hav ρ)
  refine ⟨.pointer (some ⟨w.heap.size, 0, none⟩), w.alloc (.cells z.cells t), ?_, ?_⟩
  · simp [Instr.alloc, zeroValue, typeInfo, hi, hz', newVar, newRow]
  · exact Post.row hh hF hB z.cells t l z.cells.toList hcell (by simp) (List.take_of_length_le (Nat.le_refl _)) (.inl rfl) _ _ (ptr_new ρ F ⟨w.heap.size, 0, z.cells.size⟩)

def abox (x : AV) (F : Nat) : Option (AV × Upd) :=
  match x with
  | .val _ l => some (sc (.ptr F 0), [(F, some ⟨true, l⟩)])
  | _ => none

theorem abox_sound {P : Program} {B : Nat} {ρ : Nat → Pl} {w : World} {h : Nat → Option Blk} {F : Nat} {t : TypeId} {x y : AV} {upd : Upd} {v : Value}
    (hh : HOk B ρ w h) (hF : ρ F = .un) (hB : B ≤ w.heap.size) (hx : VRepr ρ x v) (ha : abox x F = some (y, upd)) :
    ∃ r w', (Instr.box t v).run P w = .ok r w' ∧ Post B ρ w h F y upd r w' := by
  unfold abox at ha
  split at ha
  case h_2 => simp at ha
  rename_i g l
  simp at ha
  obtain ⟨rfl, rfl⟩ := ha
  refine ⟨.pointer (some ⟨w.heap.size, 0, none⟩), w.alloc (.cells v.cells t), ?_, ?_⟩
  · simp [Instr.box, newVar, newRow]
  · exact Post.row hh hF hB v.cells t l v.cells.toList (val_cells hx) (by simp) (List.take_of_length_le (Nat.le_refl _)) (.inl rfl) _ _ (ptr_new ρ F ⟨w.heap.size, 0, v.cells.size⟩)
end Go.Ev
