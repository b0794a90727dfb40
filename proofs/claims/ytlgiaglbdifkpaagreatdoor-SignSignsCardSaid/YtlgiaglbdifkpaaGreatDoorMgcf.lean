/- Texts put together: EvF EvY. Own work. -/
import Derived.Test.YtlgiaglbdifkpaaGreatDoorMgce
/- copy, make, literals, and comparisons of aggregates on the evaluator's memory. Own work; no statement of the seat is proved here. -/
namespace Go.Ev
open Go.RowKit

/-! ### copy -/
/-- Cells are written; where these are all that is known of a block, the new ones are all that is known. -/
def setRangeW (l : List IV) (off : Nat) (new : List IV) : Option (List IV) := if off = 0 ∧ lsize l = lsize new then some new else setRange l off new
theorem setRangeW_ok {ρ : Nat → Pl} {l m new : List IV} {off : Nat} {vs nv : List Value} (h : LCells ρ l vs) (hn : LCells ρ new nv) (hs : setRangeW l off new = some m) :
    off + nv.length ≤ vs.length ∧ LCells ρ m (vs.take off ++ nv ++ vs.drop (off + nv.length)) := by
  unfold setRangeW at hs
  split at hs
  · rename_i hc
    obtain ⟨rfl, he⟩ := hc
    simp at hs
    subst hs
    rw [← LCells_length h, ← LCells_length hn] at he
    refine ⟨by omega, ?_⟩
    rw [Nat.zero_add, ← he, List.drop_length]
    simpa using hn
  · exact setRange_ok h hn hs
def acopy (P : Program) (t : TypeId) (dst src : AV) (get : Nat → Option Blk) : Option (AV × Upd) :=
  match slT P t, dst.sl?, src.sl? with
  | some e, some (k, off, len), some (k', off', m) =>
    match szT P e, get k, rowOf get k' off' m with
    | some 1, some b, some r => if b.own = true ∧ m ≤ len then (setRangeW b.items off [r.item]).map fun l => (sc (.i64 (m : Int)), [(k, some ⟨true, l⟩)]) else none
    | _, _, _ => none
  | _, _, _ => none

theorem acopy_sound {P : Program} {B : Nat} {ρ : Nat → Pl} {w : World} {h : Nat → Option Blk} {F : Nat} {t t' ty : TypeId} {x y z : AV} {upd : Upd} {get : Nat → Option Blk} {v u : Value}
    (hh : HOk B ρ w h) (hg : ∀ k b, get k = some b → h k = some b) (hx : VRepr ρ x v) (hy : VRepr ρ y u) (ha : acopy P t x y get = some (z, upd)) :
    ∃ r w', (Builtin.copy_ #[t, t'] ty #[v, u]).run P w = .ok r w' ∧ Post B ρ w h F z upd r w' := by
  unfold acopy at ha
  split at ha
  case h_2 => simp at ha
  rename_i e k off len k' off' m he hd hs
  split at ha
  case h_2 => simp at ha
  rename_i b r hsz hk hr
  split at ha
  case isFalse => simp at ha
  rename_i hc
  obtain ⟨hown, hle⟩ := hc
  cases hset : setRangeW b.items off [r.item] with
  | none => simp [hset] at ha
  | some l =>
    simp [hset] at ha
    obtain ⟨rfl, rfl⟩ := ha
    have hk' := hg k b hk
    have hrlen : r.len = m := (rowOf_ok hh hg hr).1
    have hsrc := sl_read hh hg hr (sl?_ok hs hy)
    have ht := slT_ok he
    have hsz' : (P.info? e).map (·.size) = some 1 := hsz
    have nothing : m = 0 → (∃ a c, v = .slice a len c) → ∃ q w', (Builtin.copy_ #[t, t'] ty #[v, u]).run P w = .ok q w' ∧ Post B ρ w h F (sc (.i64 (m : Int))) [(k, some ⟨true, l⟩)] q w' := by
      rintro hm ⟨a, c, rfl⟩
      subst hm
      obtain ⟨a', c', rfl⟩ : ∃ a c, u = .slice a 0 c := by
        rcases hsrc with ⟨a, c, rfl, _⟩ | ⟨_, _, a, rfl⟩
        · exact ⟨some a, c, rfl⟩
        · exact ⟨a, 0, rfl⟩
      have hr0 : r.vals = [] := List.eq_nil_of_length_eq_zero (by rw [Row.vals_length, hrlen])
      refine ⟨_, w, run_copy_none w t t' ty e a a' len c 0 c' ht hsz' (by simp), ρ, Ext.refl ρ, fun _ p q => absurd p q, VRepr_sc.2 rfl, ?_, Below.refl B w⟩
      have h1 := hh.trunc (n := lsize b.items) (m := l) hk' (fun vs hv => by
        have := (setRangeW_ok hv (item_of_vals hr0) hset).2
        rw [List.take_of_length_le (by rw [LCells_length hv]; exact Nat.le_refl _)]
        simpa using this)
      rw [hown] at h1
      exact h1
    rcases sl?_ok hd hx with ⟨L, cap, hL, hc1, hc2, hv⟩ | ⟨h0, hnu, a0, hv⟩
    · simp at hv
      rcases hsrc with ⟨a, c, hu, _, _, hcell⟩ | ⟨h0, _⟩
      · by_cases hm : m = 0
        · exact nothing hm ⟨_, _, hv⟩
        · subst hv hu
          obtain ⟨w', s1, s2, s3, s4⟩ := hh.write (P := P) (off := off) (m := l) (nv := r.vals) hk' hown hL (fun vs hvs => setRangeW_ok hvs (Row.item_cells r) hset) (Row.one r)
          refine ⟨goInt (m : Int), w', ?_, ρ, Ext.refl ρ, fun _ p q => absurd p q, VRepr_sc.2 rfl, s2, s3⟩
          have hmin : Nat.min m len = m := Nat.min_eq_left hle
          have hl := run_firstCells_some (P := P) w 1 m a m c r.vals (by rw [Row.vals_length, hrlen]; omega) hcell
          simp [Builtin.copy_, run_underlying ht, run_sizeT hsz, Builtin.lenOf, hmin, hl, s1]
      · exact nothing h0 ⟨_, _, hv⟩
    · simp at hv
      subst h0
      exact nothing (by omega) ⟨_, _, hv⟩

/-! ### make -/
def zeroRow (P : Program) (e : TypeId) (n : Nat) : Option Row :=
  match zT P e with
  | some (.val false [.i64 z]) => some (.i (List.replicate n z))
  | some (.val false [.u8 z]) => some (.b (List.replicate n z))
  | some (.val false [.u32 z]) => some (.w (List.replicate n z))
  | some (.val false [.u64 z]) => some (.q (List.replicate n z))
  | _ => none

theorem zeroRow_ok {P : Program} {e : TypeId} {n : Nat} {r : Row} (h : zeroRow P e n = some r) : ∃ i z, P.info? e = some i ∧ i.zero = some z ∧ z.cells.size = 1 ∧ r.len = n ∧ r.vals = List.replicate n z.cells[0]! := by
  unfold zeroRow at h
  split at h
  case h_5 => simp at h
  all_goals
    rename_i q hz
    obtain ⟨i, z, hi, hz', hav⟩ := zT_ok hz
    have hv := LCells_of_single (val_cells (hav (fun _ => .un)))
    simp only [ICells, PCells, Option.some.injEq] at hv
    simp at h
    subst h
    refine ⟨i, z, hi, hz', by have := congrArg List.length hv; simpa using this.symm, by simp [Row.len], ?_⟩
    have h0 : z.cells[0]! = z.cells.toList[0]! := by simp [Array.getElem!_eq_getD]
    simp [Row.vals, h0, ← hv]

def amake (P : Program) (t : TypeId) (len cap : AV) (F : Nat) : Option (AV × Upd) :=
  match slT P t, len.nat?, cap.nat? with
  | some e, some n, some c =>
    match szT P e, byT P e, zeroRow P e n with
    | some 1, some by_, some r => if n = c ∧ by_ * n ≤ 281474976710656 ∧ n ≤ 9223372036854775807 then some (sc (.sl F 0 n), [(F, some ⟨true, [r.item]⟩)]) else none
    | _, _, _ => none
  | _, _, _ => none

theorem amake_sound {P : Program} {B : Nat} {ρ : Nat → Pl} {w : World} {h : Nat → Option Blk} {F : Nat} {t : TypeId} {x y z : AV} {upd : Upd} {v u : Value}
    (hh : HOk B ρ w h) (hF : ρ F = .un) (hB : B ≤ w.heap.size) (hx : VRepr ρ x v) (hy : VRepr ρ y u) (ha : amake P t x y F = some (z, upd)) :
    ∃ r w', (Instr.makeSlice t v u).run P w = .ok r w' ∧ Post B ρ w h F z upd r w' := by
  unfold amake at ha
  split at ha
  case h_2 => simp at ha
  rename_i e n c he hn hc
  split at ha
  case h_2 => simp at ha
  rename_i by_ r hs hby hz
  split at ha
  case isFalse => simp at ha
  rename_i hle
  obtain ⟨rfl, hle1, hle2⟩ := hle
  simp at ha
  obtain ⟨rfl, rfl⟩ := ha
  obtain ⟨kl, rfl⟩ := nat?_ok hn hx
  obtain ⟨kc, rfl⟩ := nat?_ok hc hy
  obtain ⟨i, zv, hi, hzv, hz1, hrl, hrv⟩ := zeroRow_ok hz
  obtain ⟨i', hi', hs'⟩ := szT_ok hs
  obtain ⟨i'', hi'', hby'⟩ := byT_ok hby
  rw [hi] at hi' hi''
  simp at hi' hi''
  subst hi' hi''
  have hb : (i.bytes : Int) * (n : Int) ≤ 281474976710656 := by
    have : ((i.bytes * n : Nat) : Int) ≤ 281474976710656 := by rw [hby']; omega
    simpa using this
  have hrun := run_make (P := P) w t e i zv (slT_ok he) hi hzv kl kc (n : Int) (n : Int) (by omega) (Int.le_refl _) hb (by omega)
  simp only [Int.toNat_natCast, hs', Nat.mul_one] at hrun
  have hmade : (madeCells zv.cells n).toList = r.vals := by
    rw [hrv]
    apply List.ext_getElem?
    intro j
    simp only [madeCells, Array.toList_map, List.getElem?_map, List.getElem?_replicate, hz1, Nat.mod_one]
    by_cases hj : j < n <;> simp [hj]
  refine ⟨_, _, hrun, Post.row hh hF hB _ e [r.item] r.vals (Row.item_cells r) (by rw [Row.vals_length, hrl, size_madeCells]; exact Nat.le_refl _) (by rw [hmade]; exact List.take_of_length_le (Nat.le_refl _)) (.inl rfl) _ _
    (VRepr_sc.2 (.inl ⟨_, n, updρ_same _ _ _, Nat.le_refl _, by rw [size_madeCells]; simp, by simp⟩))⟩

/-! ### Literals -/
def fillA (place : Nat → Option (Nat × Nat)) : List IV → List (Nat × AV) → Option (List IV)
  | items, [] => some items
  | items, (i, x) :: r =>
    match place i with
    | none => none
    | some (off, size) =>
      match x with
      | .val true l => if lsize l = size then
          match setRange items off l with
          | some m => fillA place m r
          | none => none
        else none
      | .val false [c] => if size = 1 then
          match setCell items off c with
          | some m => fillA place m r
          | none => none
        else none
      | _ => none

theorem fold_set (off : Nat) : ∀ (l : List Value) (k : Nat) (cells : Array Value), off + k + l.length ≤ cells.size →
    ((l.zipIdx k).foldl (fun cs (p : Value × Nat) => cs.setIfInBounds (off + p.2) p.1) cells).toList = cells.toList.take (off + k) ++ l ++ cells.toList.drop (off + k + l.length)
  | [], k, cells, _ => by simp
  | v :: l, k, cells, h => by
    simp only [List.length_cons] at h
    rw [List.zipIdx_cons, List.foldl_cons, fold_set off l (k + 1) _ (by simp; omega)]
    simp only [Array.toList_setIfInBounds]
    have := list_seg_step cells.toList (off + k) v l (by simp; omega)
    simpa [Nat.add_assoc] using this

theorem fill_one (v : Value) (off : Nat) (cells : Array Value) (h : off + v.cells.size ≤ cells.size) :
    (v.cells.zipIdx.foldl (fun cs (c, j) => cs.setIfInBounds (off + j) c) cells).toList = cells.toList.take off ++ v.cells.toList ++ cells.toList.drop (off + v.cells.toList.length) := by
  have e : v.cells.zipIdx.foldl (fun cs (c, j) => cs.setIfInBounds (off + j) c) cells = (v.cells.toList.zipIdx 0).foldl (fun cs (p : Value × Nat) => cs.setIfInBounds (off + p.2) p.1) cells := by
    rw [← Array.foldl_toList]
    simp
  rw [e, fold_set off v.cells.toList 0 cells (by simpa using h)]
  simp

theorem fillA_ok {ρ : Nat → Pl} {place : Nat → Option (Nat × Nat)} : ∀ {parts : List (Nat × AV)} {vparts : List (Nat × Value)} {items m : List IV} {cells : Array Value},
    LCells ρ items cells.toList → F2 (fun (p : Nat × AV) (q : Nat × Value) => p.1 = q.1 ∧ VRepr ρ p.2 q.2) parts vparts → fillA place items parts = some m →
    ∃ cells', Instr.fill place cells vparts = some cells' ∧ LCells ρ m cells'.toList
  | [], [], items, m, cells, hL, _, h => by simp [fillA] at h; subst h; exact ⟨cells, rfl, hL⟩
  | (i, x) :: r, (j, v) :: vr, items, m, cells, hL, ⟨⟨hij, hx⟩, hrest⟩, h => by
    simp only at hij
    subst hij
    unfold fillA at h
    split at h
    · simp at h
    rename_i off size hp
    have fin : ∀ (m' : List IV), v.cells.size = size → off + v.cells.toList.length ≤ cells.toList.length → LCells ρ m' (cells.toList.take off ++ v.cells.toList ++ cells.toList.drop (off + v.cells.toList.length)) → fillA place m' r = some m →
        ∃ cells', Instr.fill place cells ((i, v) :: vr) = some cells' ∧ LCells ρ m cells'.toList := by
      intro m' hsz hle hm' hf
      have hle' : off + v.cells.size ≤ cells.size := by simpa using hle
      rw [← fill_one v off cells hle'] at hm'
      obtain ⟨cells', h1, h2⟩ := fillA_ok hm' hrest hf
      refine ⟨cells', ?_, h2⟩
      have c : ¬ ((v.cells.size ≠ size || decide (off + v.cells.size > cells.size)) = true) := by simp [hsz]; omega
      simp only [Instr.fill, hp, c]
      simpa using h1
    split at h
    · rename_i l
      split at h
      case isFalse => simp at h
      rename_i hl
      split at h
      case h_2 => simp at h
      rename_i m' hs
      have hv := val_cells hx
      obtain ⟨h1, h2⟩ := setRange_ok hL hv hs
      have hlen := LCells_length hv
      exact fin m' (by simp at hlen; omega) h1 h2 h
    · rename_i c
      split at h
      case isFalse => simp at h
      rename_i hl
      split at h
      case h_2 => simp at h
      rename_i m' hs
      have hv := val_cells hx
      have hlen := LCells_length hv
      have hc := VRepr_sc.1 hx
      have hv1 : v.cells.toList = [v] := by
        have := ICells_one hc v (by simp)
        cases v <;> first | rfl | (simp [Value.oneCell'] at this)
      obtain ⟨h1, h2⟩ := setCell_ok hL hc hs
      have hsz : v.cells.size = 1 := by have := congrArg List.length hv1; simpa using this
      refine fin m' (by omega) (by rw [hv1]; simp at h1 ⊢; omega) ?_ h
      rw [hv1]
      have : cells.toList.take off ++ [v] ++ cells.toList.drop (off + [v].length) = cells.toList.set off v := by
        rw [List.set_eq_take_append_cons_drop, if_pos h1]; simp
      rw [this]; exact h2
    · simp at h

def placesT (P : Program) (t : TypeId) : Option (Nat → Option (Nat × Nat)) :=
  match P.underlying t with
  | some (.array _ e) => match P.info? e with
    | some ie => some fun i => some (i * ie.size, ie.size)
    | none => none
  | some (.struct fields) => match fields.toList.mapM (fun f => (P.info? f.type).map fun i => (f.offset, i.size)) with
    | some places => some fun i => places[i]?
    | none => none
  | _ => none

def abuild (P : Program) (t : TypeId) (parts : List (Nat × AV)) : Option (AV × Upd) :=
  match zT P t, placesT P t with
  | some (.val true zl), some place => (fillA place zl parts).map fun l => (.val true l, [])
  | _, _ => none

theorem abuild_sound {P : Program} {B : Nat} {ρ : Nat → Pl} {w : World} {h : Nat → Option Blk} {F : Nat} {t : TypeId} {parts : List (Nat × AV)} {vparts : List (Nat × Value)} {z : AV} {upd : Upd}
    (hh : HOk B ρ w h) (hp : F2 (fun (p : Nat × AV) (q : Nat × Value) => p.1 = q.1 ∧ VRepr ρ p.2 q.2) parts vparts) (ha : abuild P t parts = some (z, upd)) :
    ∃ r w', (Instr.build t vparts.toArray).run P w = .ok r w' ∧ Post B ρ w h F z upd r w' := by
  unfold abuild at ha
  split at ha
  case h_2 => simp at ha
  rename_i zl place hz hpl
  cases hf : fillA place zl parts with
  | none => simp [hf] at ha
  | some l =>
    simp [hf] at ha
    obtain ⟨rfl, rfl⟩ := ha
    obtain ⟨i, zv, hi, hzv, hav⟩ := zT_ok hz
    obtain ⟨cells', h1, h2⟩ := fillA_ok (val_cells (hav ρ)) hp hf
    have hbuilt : P.built t vparts.toArray.toList = some cells' := by
      unfold placesT at hpl
      unfold Program.built
      rw [hi]
      split at hpl
      · rename_i n e hu
        split at hpl
        case h_2 => simp at hpl
        rename_i ie hie
        simp at hpl
        subst hpl
        simp only [hu, hzv, hie]
        exact h1
      · rename_i fields hu
        split at hpl
        case h_2 => simp at hpl
        rename_i places hpp
        simp at hpl
        subst hpl
        simp only [hu, hzv, hpp]
        simpa using h1
      · simp at hpl
    exact ⟨_, w, run_build w t _ cells' hbuilt, Post.pure hh ⟨cells'.toList, h2, by simp⟩⟩

/-- So many zero elements, as items. -/
def zeroItems (P : Program) (e : TypeId) (n : Nat) : Option (List IV) :=
  match zT P e with
  | some (.val false [.i64 z]) => some [.vi n (List.replicate n z)]
  | some (.val false [.u8 z]) => some [.v8 n (List.replicate n z)]
  | some (.val false [.u32 z]) => some [.v32 n (List.replicate n z)]
  | some (.val false [.u64 z]) => some [.v64 n (List.replicate n z)]
  | some (.val false [.nil]) => some (List.replicate n .nil)
  | some (.val true [.n4 a]) => some (List.replicate n (.n4 a))
  | _ => none

theorem replicate_cells {ρ : Nat → Pl} {i : IV} {vs : List Value} (h : ICells ρ i vs) : ∀ n, LCells ρ (List.replicate n i) (List.replicate n vs).flatten
  | 0 => rfl
  | n + 1 => ⟨vs, _, by simp [List.replicate_succ], h, replicate_cells h n⟩

theorem range_mod (z : Array Value) (s : Nat) (hs : z.size = s) (hpos : 0 < s) : ∀ n, (List.range (n * s)).map (fun i => z[i % z.size]!) = (List.replicate n z.toList).flatten
  | 0 => by simp
  | n + 1 => by
    rw [Nat.add_mul, Nat.one_mul, List.range_add, List.map_append, range_mod z s hs hpos n, List.replicate_succ', List.flatten_append]
    congr 1
    simp only [List.map_map, List.flatten_cons, List.flatten_nil, List.append_nil]
    apply List.ext_getElem?
    intro j
    by_cases hj : j < s
    · have e : (n * s + j) % z.size = j := by rw [hs, Nat.mul_comm, Nat.mul_add_mod, Nat.mod_eq_of_lt hj]
      have hjz : j < z.size := by omega
      simp [hj, e, hjz]
    · have hjz : ¬ j < z.size := by omega
      simp [hj, hjz]

def allN4 : List IV → Option (List N4)
  | [] => some []
  | .n4 a :: r => (allN4 r).map (a :: ·)
  | _ => none
/-- A row of numbers of four words is one item. -/
def packN (l : List IV) : List IV :=
  match l with
  | [] => []
  | _ => match allN4 l with
    | some m => [.vn m.length m]
    | none => l
theorem allN4_ok {ρ : Nat → Pl} : ∀ {l : List IV} {m : List N4} {vs : List Value}, allN4 l = some m → LCells ρ l vs → vs = m.flatMap n4Vals
  | [], m, vs, h, hL => by simp [allN4] at h; subst h; exact hL
  | .n4 a :: r, m, vs, h, ⟨x, y, hxy, hx, hy⟩ => by
    simp only [allN4] at h
    cases hr : allN4 r with
    | none => simp [hr] at h
    | some m' =>
      simp [hr] at h
      subst h
      simp only [ICells, PCells, Option.some.injEq] at hx
      rw [hxy, ← hx, allN4_ok hr hy]
      simp
theorem packN_ok {ρ : Nat → Pl} {l : List IV} {vs : List Value} (h : LCells ρ l vs) : LCells ρ (packN l) vs := by
  unfold packN
  split
  · exact h
  · split
    · rename_i m hm
      rw [allN4_ok hm h]
      exact LCells_single (by simp [ICells, PCells])
    · exact h

def abuildSlice (P : Program) (t : TypeId) (len : Nat) (parts : List (Nat × AV)) (F : Nat) : Option (AV × Upd) :=
  match slT P t with
  | none => none
  | some e =>
    match szT P e, zeroItems P e len, zT P e with
    | some s, some zl, some (.val _ l0) =>
      if 0 < s ∧ len * s ≤ 16777216 ∧ lsize l0 = s then
        (fillA (fun i => some (i * s, s)) zl parts).map fun l => (sc (.sl F 0 len), [(F, some ⟨true, packN l⟩)])
      else none
    | _, _, _ => none

theorem zeroItems_ok {P : Program} {ρ : Nat → Pl} {e : TypeId} {n : Nat} {zl : List IV} (h : zeroItems P e n = some zl) :
    ∃ i z, P.info? e = some i ∧ i.zero = some z ∧ LCells ρ zl (List.replicate n z.cells.toList).flatten := by
  unfold zeroItems at h
  have one : ∀ {α : Type} (f : α → Value) (x : α) (z : Value), [f x] = z.cells.toList → (List.replicate n x).map f = (List.replicate n z.cells.toList).flatten := by
    intro α f x z hz
    rw [← hz]
    induction n with
    | zero => rfl
    | succ n ih => simp [List.replicate_succ]
  split at h
  case h_7 => simp at h
  all_goals
    rename_i q hz
    obtain ⟨i, z, hi, hz', hav⟩ := zT_ok hz
    have hv := LCells_of_single (val_cells (hav ρ))
    simp at h
    subst h
    refine ⟨i, z, hi, hz', ?_⟩
  · simp only [ICells, PCells, Option.some.injEq] at hv
    exact LCells_single (by simp only [ICells, PCells]; rw [if_pos (by simp), one intVal q z hv])
  · simp only [ICells, PCells, Option.some.injEq] at hv
    exact LCells_single (by simp only [ICells, PCells]; rw [if_pos (by simp), one byteVal q z hv])
  · simp only [ICells, PCells, Option.some.injEq] at hv
    exact LCells_single (by simp only [ICells, PCells]; rw [if_pos (by simp), one w32Val q z hv])
  · simp only [ICells, PCells, Option.some.injEq] at hv
    exact LCells_single (by simp only [ICells, PCells]; rw [if_pos (by simp), one wordVal q z hv])
  · exact replicate_cells hv n
  · exact replicate_cells hv n

theorem abuildSlice_sound {P : Program} {B : Nat} {ρ : Nat → Pl} {w : World} {h : Nat → Option Blk} {F : Nat} {t : TypeId} {len : Nat} {parts : List (Nat × AV)} {vparts : List (Nat × Value)} {z : AV} {upd : Upd}
    (hh : HOk B ρ w h) (hF : ρ F = .un) (hB : B ≤ w.heap.size) (hp : F2 (fun (p : Nat × AV) (q : Nat × Value) => p.1 = q.1 ∧ VRepr ρ p.2 q.2) parts vparts) (ha : abuildSlice P t len parts F = some (z, upd)) :
    ∃ r w', (Instr.buildSlice t len vparts.toArray).run P w = .ok r w' ∧ Post B ρ w h F z upd r w' := by
  unfold abuildSlice at ha
  split at ha
  · simp at ha
  rename_i e he
  split at ha
  case h_2 => simp at ha
  rename_i s zl g0 l0 hs hz hzt
  split at ha
  case isFalse => simp at ha
  rename_i hle
  obtain ⟨hpos, hle, hl0⟩ := hle
  cases hf : fillA (fun i => some (i * s, s)) zl parts with
  | none => simp [hf] at ha
  | some l =>
    simp [hf] at ha
    obtain ⟨rfl, rfl⟩ := ha
    obtain ⟨i, zv, hi, hzv, hcell⟩ := zeroItems_ok (ρ := ρ) hz
    have hzs : zv.cells.size = s := by
      obtain ⟨i2, z2, hi2, hz2, hav⟩ := zT_ok hzt
      rw [hi] at hi2
      simp at hi2
      subst hi2
      rw [hzv] at hz2
      simp at hz2
      subst hz2
      have := LCells_length (val_cells (hav ρ))
      simp at this
      omega
    have h2 : ¬ (len * s > 2 ^ 24) := by omega
    have hfl : ∀ (place : Nat → Option (Nat × Nat)) (q : List (Nat × Value)) (c c' : Array Value), Instr.fill place c q = some c' → c'.size = c.size := by
      intro place q
      induction q with
      | nil => intro c c' hq; simp [Instr.fill] at hq; rw [hq]
      | cons p q ih =>
        intro c c' hq
        obtain ⟨a, b⟩ := p
        unfold Instr.fill at hq
        split at hq
        · simp at hq
        · split at hq
          · simp at hq
          · rename_i o1 o2 _ hcond
            rw [ih _ _ hq]
            simp only [Bool.or_eq_true, decide_eq_true_eq, not_or, ne_eq, Decidable.not_not, gt_iff_lt, Nat.not_lt] at hcond
            have h9 := fill_one b o1 c hcond.2
            have := congrArg List.length h9
            rw [Array.length_toList] at this
            rw [this]
            simp
            omega
    have key : ∀ cells0 : Array Value, LCells ρ zl cells0.toList → cells0.size = len * s →
        (∀ cells', Instr.fill (fun i => some (i * s, s)) cells0 vparts = some cells' → (Instr.buildSlice t len vparts.toArray).run P w = .ok (.slice (some ⟨w.heap.size, 0, none⟩) len len) (w.alloc (.cells cells' e))) →
        ∃ r w', (Instr.buildSlice t len vparts.toArray).run P w = .ok r w' ∧ Post B ρ w h F (sc (.sl F 0 len)) [(F, some ⟨true, packN l⟩)] r w' := by
      intro cells0 hc0 hsz0 hrun
      obtain ⟨cells', h3, h4⟩ := fillA_ok hc0 hp hf
      have hsize : cells'.size = len * s := by rw [hfl _ _ _ _ h3, hsz0]
      refine ⟨_, _, hrun cells' h3, ?_⟩
      refine Post.row hh hF hB cells' e (packN l) cells'.toList (packN_ok h4) (by simp) (List.take_of_length_le (Nat.le_refl _)) (.inl rfl) _ _ (VRepr_sc.2 (.inl ⟨_, len, updρ_same _ _ _, Nat.le_refl _, ?_, by simp⟩))
      rw [hsize]
      simp
      exact Nat.le_mul_of_pos_right len hpos
    by_cases h0 : len * s = 0
    · have hl0 : len = 0 := by rcases Nat.mul_eq_zero.1 h0 with q | q <;> omega
      subst hl0
      refine key #[] (by simpa using hcell) (by simp) fun cells' h3 => ?_
      have e0 : ∀ (z : Array Value), Array.map (fun i => z[i % z.size]!) (Array.range 0) = #[] := fun z => by simp
      simp only [Instr.buildSlice, Sem.run_bind, run_underlying (slT_ok he), Result.andThen_ok, run_sizeT hs, Nat.zero_mul, if_true, e0, h3]
      simp [newRow]
    · refine key ((Array.range (len * s)).map (fun i => zv.cells[i % zv.cells.size]!)) ?_ (by simp) fun cells' h3 => ?_
      · rw [← range_mod zv.cells s hzs hpos len] at hcell
        simpa using hcell
      · simp only [Instr.buildSlice, Sem.run_bind, run_underlying (slT_ok he), Result.andThen_ok, run_sizeT hs, h2, if_false, h0, zeroValue, typeInfo, run_program, hi, hzv, Sem.run_pure, h3]
        simp [newRow]

/-! ### Comparisons of aggregates -/
def N4.eq (a b : N4) : Bool := a.w0 == b.w0 && (a.w1 == b.w1 && (a.w2 == b.w2 && a.w3 == b.w3))
def eqIV : IV → IV → Option Bool
  | .i64 a, .i64 b => some (a == b)
  | .u8 a, .u8 b => some (a == b)
  | .u32 a, .u32 b => some (a == b)
  | .u64 a, .u64 b => some (a == b)
  | .n4 a, .n4 b => some (N4.eq a b)
  | .vi n l, .vi m l' => if n = m then some (l == l') else none
  | .v8 n l, .v8 m l' => if n = m then some (l == l') else none
  | .v32 n l, .v32 m l' => if n = m then some (l == l') else none
  | .fe x, .fe y => some (digs16 x == digs16 y)
  | .fe x, .vi n l => if n = 16 then some (digs16 x == l) else none
  | .vi n l, .fe x => if n = 16 then some (l == digs16 x) else none
  | .v64 n l, .v64 m l' => if n = m then some (l == l') else none
  | _, _ => none
def eqL : List IV → List IV → Option Bool
  | [], [] => some true
  | a :: r, b :: s => match eqIV a b, eqL r s with
    | some x, some y => some (x && y)
    | _, _ => none
  | _, _ => none

/-- Cell by cell: numbers of one kind each. -/
def cellEq : Value → Value → Bool
  | .int _ a, .int _ b => a == b
  | _, _ => false
def cellsEq : List Value → List Value → Bool
  | [], [] => true
  | x :: xs, y :: ys => cellEq x y && cellsEq xs ys
  | _, _ => false
def IntPair (x y : Value) : Prop := ∃ k a b, x = .int k a ∧ y = .int k b

theorem cellsEq_append : ∀ {a b c d : List Value}, a.length = b.length → cellsEq (a ++ c) (b ++ d) = (cellsEq a b && cellsEq c d)
  | [], [], _, _, _ => by simp [cellsEq]
  | x :: a, y :: b, c, d, h => by simp only [List.cons_append, cellsEq, cellsEq_append (a := a) (b := b) (by simpa using h), Bool.and_assoc]

theorem F2_map {α : Type} (f : α → Value) (h : ∀ a b, IntPair (f a) (f b)) : ∀ {l m : List α}, l.length = m.length → F2 IntPair (l.map f) (m.map f)
  | [], [], _ => trivial
  | _ :: _, _ :: _, e => ⟨h _ _, F2_map f h (by simpa using e)⟩

theorem cellsEq_map {α : Type} [BEq α] [LawfulBEq α] (f : α → Value) (h : ∀ a b, cellEq (f a) (f b) = (a == b)) : ∀ {l m : List α}, l.length = m.length → cellsEq (l.map f) (m.map f) = (l == m)
  | [], [], _ => rfl
  | a :: l, b :: m, e => by
    simp only [List.map_cons, cellsEq, h, cellsEq_map f h (l := l) (m := m) (by simpa using e)]
    rfl

theorem bv_cast_beq {n : Nat} (a b : BitVec n) : ((a.toNat : Int) == (b.toNat : Int)) = (a == b) := by
  rw [Bool.eq_iff_iff]
  simp only [beq_iff_eq]
  exact ⟨fun e => BitVec.eq_of_toNat_eq (by omega), fun e => by rw [e]⟩

theorem eqIV_ok {ρ : Nat → Pl} {i j : IV} {r : Bool} {xs ys : List Value} (hi : ICells ρ i xs) (hj : ICells ρ j ys) (h : eqIV i j = some r) : F2 IntPair xs ys ∧ cellsEq xs ys = r := by
  have pi : ∀ a b, IntPair (intVal a) (intVal b) := fun a b => ⟨_, _, _, rfl, rfl⟩
  have p8 : ∀ a b, IntPair (byteVal a) (byteVal b) := fun a b => ⟨_, _, _, rfl, rfl⟩
  have p32 : ∀ a b, IntPair (w32Val a) (w32Val b) := fun a b => ⟨_, _, _, rfl, rfl⟩
  have p64 : ∀ a b, IntPair (wordVal a) (wordVal b) := fun a b => ⟨_, _, _, rfl, rfl⟩
  have ci : ∀ a b, cellEq (intVal a) (intVal b) = (a == b) := fun _ _ => rfl
  have c8 : ∀ a b, cellEq (byteVal a) (byteVal b) = (a == b) := fun a b => bv_cast_beq a b
  have c32 : ∀ a b, cellEq (w32Val a) (w32Val b) = (a == b) := fun a b => bv_cast_beq a b
  have c64 : ∀ a b, cellEq (wordVal a) (wordVal b) = (a == b) := fun a b => bv_cast_beq a b
  unfold eqIV at h
  split at h
  case h_13 => simp at h
  case h_1 => simp [ICells, PCells] at hi hj; simp at h; subst hi hj h; exact ⟨⟨pi _ _, trivial⟩, by simp [cellsEq, ci]⟩
  case h_2 => simp [ICells, PCells] at hi hj; simp at h; subst hi hj h; exact ⟨⟨p8 _ _, trivial⟩, by simp [cellsEq, c8]⟩
  case h_3 => simp [ICells, PCells] at hi hj; simp at h; subst hi hj h; exact ⟨⟨p32 _ _, trivial⟩, by simp [cellsEq, c32]⟩
  case h_4 => simp [ICells, PCells] at hi hj; simp at h; subst hi hj h; exact ⟨⟨p64 _ _, trivial⟩, by simp [cellsEq, c64]⟩
  case h_5 =>
    simp [ICells, PCells] at hi hj
    simp only [Option.some.injEq] at h
    subst hi hj h
    exact ⟨⟨p64 _ _, p64 _ _, p64 _ _, p64 _ _, trivial⟩, by simp [n4Vals, cellsEq, c64, N4.eq]⟩
  case h_6 =>
    split at h <;> simp at h
    rename_i e
    subst e h
    simp only [ICells, PCells] at hi hj
    split at hi <;> simp at hi
    split at hj <;> simp at hj
    rename_i e1 e2
    subst hi hj
    exact ⟨F2_map intVal pi (by omega), cellsEq_map intVal ci (by omega)⟩
  case h_7 =>
    split at h <;> simp at h
    rename_i e
    subst e h
    simp only [ICells, PCells] at hi hj
    split at hi <;> simp at hi
    split at hj <;> simp at hj
    rename_i e1 e2
    subst hi hj
    exact ⟨F2_map byteVal p8 (by omega), cellsEq_map byteVal c8 (by omega)⟩
  case h_8 =>
    split at h <;> simp at h
    rename_i e
    subst e h
    simp only [ICells, PCells] at hi hj
    split at hi <;> simp at hi
    split at hj <;> simp at hj
    rename_i e1 e2
    subst hi hj
    exact ⟨F2_map w32Val p32 (by omega), cellsEq_map w32Val c32 (by omega)⟩
  case h_9 =>
    simp only [ICells, PCells, Option.some.injEq] at hi hj h
    subst hi hj h
    exact ⟨F2_map intVal pi (by simp [digs16]), cellsEq_map intVal ci (by simp [digs16])⟩
  case h_10 =>
    split at h <;> simp at h
    rename_i e
    subst e h
    simp only [ICells, PCells, Option.some.injEq] at hi hj
    split at hj <;> simp at hj
    rename_i e2
    subst hi hj
    exact ⟨F2_map intVal pi (by simp [digs16]; omega), cellsEq_map intVal ci (by simp [digs16]; omega)⟩
  case h_11 =>
    split at h <;> simp at h
    rename_i e
    subst e h
    simp only [ICells, PCells, Option.some.injEq] at hi hj
    split at hi <;> simp at hi
    rename_i e2
    subst hi hj
    exact ⟨F2_map intVal pi (by simp [digs16]; omega), cellsEq_map intVal ci (by simp [digs16]; omega)⟩
  case h_12 =>
    split at h <;> simp at h
    rename_i e
    subst e h
    simp only [ICells, PCells] at hi hj
    split at hi <;> simp at hi
    split at hj <;> simp at hj
    rename_i e1 e2
    subst hi hj
    exact ⟨F2_map wordVal p64 (by omega), cellsEq_map wordVal c64 (by omega)⟩

theorem eqL_ok {ρ : Nat → Pl} : ∀ {l m : List IV} {r : Bool} {xs ys : List Value}, LCells ρ l xs → LCells ρ m ys → eqL l m = some r → F2 IntPair xs ys ∧ cellsEq xs ys = r
  | [], [], r, xs, ys, hx, hy, h => by simp [eqL] at h; rw [hx, hy, h]; exact ⟨trivial, rfl⟩
  | i :: l, j :: m, r, xs, ys, ⟨a, b, hab, ha, hb⟩, ⟨c, d, hcd, hc, hd⟩, h => by
    simp only [eqL] at h
    split at h
    case h_2 => simp at h
    rename_i p q hp hq
    simp only [Option.some.injEq] at h
    obtain ⟨h1, h2⟩ := eqIV_ok ha hc hp
    obtain ⟨h3, h4⟩ := eqL_ok hb hd hq
    rw [hab, hcd]
    exact ⟨h1.append h3, by rw [cellsEq_append h1.length, h2, h4, h]⟩

/-- Arrays of numbers. -/
def flatA (P : Program) (t : TypeId) : Option Nat :=
  match P.underlying t with
  | some (.array n e) => match P.underlying e, szT P e with
    | some (.int _), some 1 => some n
    | _, _ => none
  | _ => none

theorem run_equal_flat' {P : Program} (w : World) (d : Nat) (t e : TypeId) (n : Nat) (xs ys : List Value) (hu : P.underlying t = some (.array n e)) (hs : szT P e = some 1) (hagg : (isAgg e).run P w = .ok false w)
    (hel : ∀ k a b, (Op.equalIn d e (.int k a) (.int k b)).run P w = .ok (a == b) w) (hl : xs.length = n) (hp : F2 IntPair xs ys) :
    (Op.equalIn (d + 1) t (.agg xs.toArray) (.agg ys.toArray)).run P w = .ok (cellsEq xs ys) w := by
  simp only [Op.equalIn, Sem.run_bind, run_underlying hu, Result.andThen_ok, run_sizeT hs]
  rw [Std.Legacy.Range.forIn_eq_forIn_range']
  have hsz : Std.Legacy.Range.size [0:n] = n := by simp [Std.Legacy.Range.size]
  simp only [hsz]
  have hpart : ∀ (zs : List Value) (k : Nat) (z : Value), zs[k]? = some z → (part e zs.toArray (k * 1)).run P w = .ok z w := by
    intro zs k z hz
    simp only [part, Sem.run_bind, hagg, Result.andThen_ok, Bool.false_eq_true, if_false, Nat.mul_one]
    have : zs.toArray[k]? = some z := by simpa using hz
    rw [this]
    rfl
  suffices hgen : ∀ (m k : Nat) (as bs : List Value), as.length = m → F2 IntPair as bs → (∀ i, xs[k + i]? = as[i]?) → (∀ i, ys[k + i]? = bs[i]?) →
      (((forIn (List.range' k m) ((none, ⟨⟩) : Option Bool × PUnit) fun i __s => do
            let __do_lift ← part e xs.toArray (i * 1)
            let __do_lift_1 ← part e ys.toArray (i * 1)
            let __do_lift ← Op.equalIn d e __do_lift __do_lift_1
            if (!__do_lift) = true then pure (ForInStep.done (some false, ⟨⟩)) else pure (ForInStep.yield (none, ⟨⟩)) : Sem (Option Bool × PUnit)).run P w) =
        .ok (if cellsEq as bs then (none, ⟨⟩) else (some false, ⟨⟩)) w) by
    have h0 := hgen n 0 xs ys hl hp (fun i => by simp) (fun i => by simp)
    refine (congrArg (Result.andThen · _) h0).trans ?_
    cases cellsEq xs ys <;> rfl
  intro m
  induction m with
  | zero =>
    intro k as bs h1 h2 _ _
    match as, bs, h1, h2 with
    | [], [], _, _ => simp [cellsEq]
  | succ m ih =>
    intro k as bs h1 h2 h3 h4
    match as, bs, h1, h2 with
    | a :: as, b :: bs, h1, ⟨p1, p2⟩ =>
      have ea := hpart xs k a (by simpa using h3 0)
      have eb := hpart ys k b (by simpa using h4 0)
      obtain ⟨kd, x, y, rfl, rfl⟩ := p1
      rw [List.range'_succ, List.forIn_cons]
      simp only [Sem.run_bind, ea, eb, hel, Result.andThen_ok]
      cases hc : x == y
      · simp [cellsEq, cellEq, hc]
      · have := ih (k + 1) as bs (by simpa using h1) p2 (fun i => by have := h3 (i + 1); simpa [Nat.add_assoc, Nat.add_comm 1] using this) (fun i => by have := h4 (i + 1); simpa [Nat.add_assoc, Nat.add_comm 1] using this)
        simp only [Bool.not_true, Bool.false_eq_true, if_false, Sem.run_pure, Result.andThen_ok, cellsEq, cellEq, hc, Bool.true_and]
        exact this

theorem flatA_ok {P : Program} {t : TypeId} {n : Nat} (h : flatA P t = some n) : ∃ e k, P.underlying t = some (.array n e) ∧ P.underlying e = some (.int k) ∧ szT P e = some 1 := by
  unfold flatA at h
  split at h
  case h_2 => simp at h
  rename_i n' e hu
  split at h
  case h_2 => simp at h
  rename_i kk hue hse
  simp at h
  subst h
  exact ⟨e, kk, hu, hue, hse⟩

theorem run_equal_flat {P : Program} (w : World) (d : Nat) (t : TypeId) (n : Nat) (xs ys : List Value) (hf : flatA P t = some n) (hl : xs.length = n) (hp : F2 IntPair xs ys) :
    (Op.equalIn (d + 2) t (.agg xs.toArray) (.agg ys.toArray)).run P w = .ok (cellsEq xs ys) w := by
  obtain ⟨e, k, hu, hue, hse⟩ := flatA_ok hf
  exact run_equal_flat' w (d + 1) t e n xs ys hu hse (run_aggT (by simp [aggT, hue]) w) (fun k' a b => run_equalIn_int w d e k' k a b hue) hl hp

/-- Structs of such arrays, one behind the other. -/
def flatF (P : Program) : List Field → Nat → Option Nat
  | [], o => some o
  | f :: fs, o =>
    if f.name ≠ "_" ∧ f.offset = o then
      match flatA P f.type, szT P f.type with
      | some n, some m => if n = m then flatF P fs (o + n) else none
      | _, _ => none
    else none

theorem F2.drop {α β : Type} {R : α → β → Prop} : ∀ {l : List α} {m : List β} (n : Nat), F2 R l m → F2 R (l.drop n) (m.drop n)
  | _, _, 0, h => h
  | [], [], _ + 1, _ => trivial
  | _ :: _, _ :: _, n + 1, ⟨_, h⟩ => F2.drop n h
theorem F2.take {α β : Type} {R : α → β → Prop} : ∀ {l : List α} {m : List β} (n : Nat), F2 R l m → F2 R (l.take n) (m.take n)
  | _, _, 0, _ => by simp [F2]
  | [], [], _ + 1, _ => trivial
  | _ :: _, _ :: _, n + 1, ⟨h0, h⟩ => ⟨h0, F2.take n h⟩

theorem run_eqFields {P : Program} (w : World) (d : Nat) (xs ys : List Value) (hp : F2 IntPair xs ys) : ∀ (fs : List Field) (o n : Nat), flatF P fs o = some n → xs.length = n →
    (Op.eqFields (d + 2) xs.toArray ys.toArray fs).run P w = .ok (cellsEq (xs.drop o) (ys.drop o)) w
  | [], o, n, hf, hl => by
    simp [flatF] at hf
    subst hf
    have h1 : xs.drop o = [] := List.drop_eq_nil_of_le (by omega)
    have h2 : ys.drop o = [] := List.drop_eq_nil_of_le (by have := hp.length; omega)
    rw [h1, h2]
    rfl
  | f :: fs, o, n, hf, hl => by
    unfold flatF at hf
    split at hf
    case isFalse => simp at hf
    rename_i hc
    obtain ⟨hname, ho⟩ := hc
    subst ho
    split at hf
    case h_2 => simp at hf
    rename_i a b hfa hsz
    split at hf
    case isFalse => simp at hf
    rename_i hab
    subst hab
    obtain ⟨e, k, hu, _, _⟩ := flatA_ok hfa
    have hagg : (isAgg f.type).run P w = .ok true w := run_aggT (by simp [aggT, hu]) w
    have hle : ∀ (fs : List Field) (o n : Nat), flatF P fs o = some n → o ≤ n := by
      intro fs
      induction fs with
      | nil => intro o n h; simp [flatF] at h; omega
      | cons g gs ih =>
        intro o n h
        unfold flatF at h
        split at h
        case isFalse => simp at h
        split at h
        case h_2 => simp at h
        split at h
        case isFalse => simp at h
        have := ih _ _ h
        omega
    have hon := hle fs _ n hf
    have hpart : ∀ zs : List Value, (part f.type zs.toArray f.offset).run P w = .ok (.agg ((zs.drop f.offset).take a).toArray) w := by
      intro zs
      simp [part, hagg, run_sizeT hsz]
    have hseg : F2 IntPair ((xs.drop f.offset).take a) ((ys.drop f.offset).take a) := (hp.drop f.offset).take a
    have heq := run_equal_flat (P := P) w d f.type a _ _ hfa (by simp; omega) hseg
    have ih := run_eqFields (P := P) w d xs ys hp fs (f.offset + a) n hf hl
    have hsplit : cellsEq (xs.drop f.offset) (ys.drop f.offset) = (cellsEq ((xs.drop f.offset).take a) ((ys.drop f.offset).take a) && cellsEq (xs.drop (f.offset + a)) (ys.drop (f.offset + a))) := by
      rw [← List.drop_drop, ← List.drop_drop, ← cellsEq_append hseg.length, List.take_append_drop, List.take_append_drop]
    simp only [Op.eqFields, hname, ne_eq, not_false_eq_true, if_true, Sem.run_bind, hpart, Result.andThen_ok, heq]
    rw [hsplit]
    cases cellsEq ((xs.drop f.offset).take a) ((ys.drop f.offset).take a)
    · rfl
    · simp only [Bool.not_true, Bool.false_eq_true, if_false, Bool.true_and]
      exact ih

/-- How many cells a type of numbers alone has, where two of its values may be compared. -/
def eqOk (P : Program) (t : TypeId) : Option Nat :=
  if P.eqGuardType P.depth t then none
  else match flatA P t with
    | some n => some n
    | none => match P.underlying t with
      | some (.struct fs) => if P.stoodInHeld t then none else flatF P fs.toList 0
      | _ => none

theorem run_eqOk {P : Program} {w : World} {t : TypeId} {n : Nat} {xs ys : List Value} (h : eqOk P t = some n) (hl : xs.length = n) (hp : F2 IntPair xs ys) (op : BinOp) (x y : Operand) :
    (eqGuard op t x y (.agg xs.toArray) (.agg ys.toArray)).run P w = .ok () w ∧ (Op.equalIn 10000 t (.agg xs.toArray) (.agg ys.toArray)).run P w = .ok (cellsEq xs ys) w := by
  unfold eqOk at h
  split at h
  · simp at h
  rename_i hg
  refine ⟨run_eqGuard_agg w op t x y _ _ (by simpa using hg), ?_⟩
  split at h
  · rename_i m hf
    simp at h
    subst h
    exact run_equal_flat w 9998 t m xs ys hf hl hp
  · split at h
    case h_2 => simp at h
    rename_i fs hu
    split at h
    · simp at h
    rename_i hst
    have hfo : P.fieldsOf t = fs := by simp [Program.fieldsOf, hu]
    have := run_equalIn_struct (P := P) w 9999 t xs.toArray ys.toArray (by rw [hfo]; exact hu) (by simpa using hst)
    rw [this, hfo, run_eqFields w 9997 xs ys hp fs.toList 0 n h hl]
    simp

def aeqAgg (P : Program) (op : BinOp) (t : TypeId) (l m : List IV) : Option IV :=
  match eqOk P t, eqL l m with
  | some n, some r => if lsize l = n then
      match op with
      | .eql => some (.bool r)
      | .neq => some (.bool (!r))
      | _ => none
    else none
  | _, _ => none

theorem aeqAgg_sound {P : Program} {ρ : Nat → Pl} {w : World} {op : BinOp} {t : TypeId} {x y : Operand} {l m : List IV} {z : IV} {xs ys : List Value} (hx : LCells ρ l xs) (hy : LCells ρ m ys) (h : aeqAgg P op t l m = some z) :
    ∃ r, (do eqGuard op t x y (.agg xs.toArray) (.agg ys.toArray); binOp op t (.agg xs.toArray) (.agg ys.toArray) : Sem Value).run P w = .ok r w ∧ PCells z = some [r] := by
  unfold aeqAgg at h
  split at h
  case h_2 => simp at h
  rename_i n r hok heq
  split at h
  case isFalse => simp at h
  rename_i hn
  obtain ⟨h1, h2⟩ := eqL_ok hx hy heq
  obtain ⟨h3, h4⟩ := run_eqOk (w := w) hok (by rw [LCells_length hx, hn]) h1 op x y
  rw [h2] at h4
  split at h
  · simp at h
    subst h
    exact ⟨.bool r, by rw [Sem.run_bind, h3, Result.andThen_ok, run_eql_struct, h4, Result.andThen_ok], rfl⟩
  · simp at h
    subst h
    exact ⟨.bool (!r), by rw [Sem.run_bind, h3, Result.andThen_ok, run_neq_struct, h4, Result.andThen_ok], rfl⟩
  · simp at h
end Go.Ev
/- Noughts that are put behind a slice ('append(x, make(..)...)'). Own work; no statement of the seat is proved here. -/
namespace Go.Ev
open Go.RowKit

theorem zeroCells_one {z : Value} (h : z.cells.size = 1) (n : Nat) : (Builtin.zeroCells z.cells n).toList = List.replicate n z.cells[0]! := by
  apply List.ext_getElem
  · simp [size_zeroCells, h]
  · intro i h1 h2
    simp only [Builtin.zeroCells, h, Nat.mod_one, Array.toList_map, Array.toList_range, List.getElem_map, List.getElem_replicate]

section
variable {P : Program} (w : World)
theorem wrap_len {m : Nat} (h : m ≤ 9223372036854775807) : IntKind.i64.wrap (m : Int) = (m : Int) := by
  simp [IntKind.wrap, IntKind.signed, IntKind.bits]
  omega

theorem run_appendZ_inplace (w' : World) (t t' ty e : TypeId) (i : TypeInfo) (z : Value) (kd : IntKind) (ht : P.underlying t = some (.slice e)) (ht' : P.underlying t' = some (.int .i64)) (hi : P.info? e = some i) (hz : i.zero = some z) (hs : i.size = 1)
    (hz1 : z.cells.size = 1) (g off n cap m : Nat) (h0 : 0 < m) (h63 : m ≤ 9223372036854775807) (h48 : m * i.bytes ≤ 281474976710656) (hroom : n + m ≤ cap)
    (hst : (storeCells ⟨g, off + n, none⟩ (List.replicate m z.cells[0]!)).run P w = .ok () w') :
    (Builtin.append_ #[t, t'] ty #[.slice (some ⟨g, off, none⟩) n cap, .int kd (m : Int)]).run P w = .ok (.slice (some ⟨g, off, none⟩) (n + m) cap) w' := by
  have hm : ¬ ((m : Int) < 0) := by omega
  have h48' : ¬ (281474976710656 < (m : Int) * (i.bytes : Int)) := by
    have : ((m * i.bytes : Nat) : Int) = (m : Int) * (i.bytes : Int) := by simp
    omega
  have hm0 : m ≠ 0 := by omega
  rw [← zeroCells_one hz1 m] at hst
  simp [Builtin.append_, run_underlying ht, run_underlying ht', sizeOf, typeInfo, zeroValue, hi, hz, hs, asInt, asIntOf, wrap_len h63, hm, h48', hroom, hm0, Addr_add_at, hst]

theorem run_appendZ_grow (t t' ty e : TypeId) (i : TypeInfo) (z : Value) (kd : IntKind) (ht : P.underlying t = some (.slice e)) (ht' : P.underlying t' = some (.int .i64)) (hi : P.info? e = some i) (hz : i.zero = some z) (hs : i.size = 1)
    (hz1 : z.cells.size = 1) (b : Option Addr) (n cap m : Nat) (olds : List Value) (hlo : olds.length = n) (holds : ∀ a, b = some a → ∀ j v, olds[j]? = some v → w.cell? (a.add j) = some v) (hb : b = none → n = 0)
    (h0 : 0 < m) (h63 : n + m ≤ 9223372036854775807) (h48 : m * i.bytes ≤ 281474976710656) (hg : cap < n + m) (hfit : Builtin.nextslicecap (n + m) cap * i.bytes ≤ 281474976710656) :
    (Builtin.append_ #[t, t'] ty #[.slice b n cap, .int kd (m : Int)]).run P w =
      .ok (.slice (some ⟨w.heap.size, 0, none⟩) (n + m) (grownCap w (n + m) cap e)) (w.drew.alloc (.cells (olds.toArray ++ (List.replicate m z.cells[0]!).toArray ++ Builtin.zeroCells z.cells (grownCap w (n + m) cap e - (n + m))) e)) := by
  have hm : ¬ ((m : Int) < 0) := by omega
  have h48' : ¬ (281474976710656 < (m : Int) * (i.bytes : Int)) := by
    have : ((m * i.bytes : Nat) : Int) = (m : Int) * (i.bytes : Int) := by simp
    omega
  have hm0 : m ≠ 0 := by omega
  have hn : ¬ (n + m ≤ cap) := by omega
  have h63' : ¬ (9223372036854775807 < ((n : Int) + (m : Int))) := by omega
  have h48'' : ¬ (281474976710656 < Builtin.nextslicecap (n + m) cap * i.bytes) := by omega
  have hfo : (Builtin.firstCells 1 n (.slice b n cap)).run P w.drew = .ok olds.toArray w.drew := by
    cases b with
    | none =>
      have := hb rfl
      subst this
      have : olds = [] := List.eq_nil_of_length_eq_zero hlo
      subst this
      simp [Builtin.firstCells]
    | some a => exact run_firstCells_some (P := P) w.drew 1 n a n cap olds (by simpa using hlo) (by simpa using holds a rfl)
  have hzc : (Builtin.zeroCells z.cells m) = (List.replicate m z.cells[0]!).toArray := by
    apply Array.ext'
    rw [zeroCells_one hz1 m]
  simp [Builtin.append_, run_underlying ht, run_underlying ht', sizeOf, typeInfo, zeroValue, hi, hz, hs, asInt, asIntOf, wrap_len (show m ≤ 9223372036854775807 by omega), hm, h48', hn, h63', h48'', hm0, Question.forced, hfo, hzc, newRow, grownCap]
end

def aappendZ (P : Program) (t t' : TypeId) (dst n : AV) (get : Nat → Option Blk) (F : Nat) : Option (AV × Upd) :=
  match slT P t, intT P t', n.nat? with
  | some e, some .i64, some m =>
    match szT P e, byT P e, zeroRow P e m with
    | some 1, some by_, some r =>
      match dst.one? with
      | some (.sl k 0 len) =>
        match get k, rowOf get k 0 len with
        | some b, some d =>
          match catRow d r with
          | some c => if b.own ∧ 0 < m ∧ (len + m) * by_ ≤ 140737488355328 ∧ len + m ≤ 9223372036854775807 then some (sc (.sl F 0 (len + m)), [(k, none), (F, some ⟨true, [c.item]⟩)]) else none
          | none => none
        | _, _ => none
      | _ => none
    | _, _, _ => none
  | _, _, _ => none

theorem aappendZ_sound {P : Program} {B : Nat} {ρ : Nat → Pl} {w : World} {h : Nat → Option Blk} {F : Nat} {t t' ty : TypeId} {x y z : AV} {upd : Upd} {get : Nat → Option Blk} {v u : Value}
    (hh : HOk B ρ w h) (hg : ∀ k b, get k = some b → h k = some b) (hF : ρ F = .un) (hB : B ≤ w.heap.size) (hx : VRepr ρ x v) (hy : VRepr ρ y u) (ha : aappendZ P t t' x y get F = some (z, upd)) :
    ∃ r w', (Builtin.append_ #[t, t'] ty #[v, u]).run P w = .ok r w' ∧ Post B ρ w h F z upd r w' := by
  unfold aappendZ at ha
  split at ha
  case h_2 => simp at ha
  rename_i e m he hit hmn
  split at ha
  case h_2 => simp at ha
  rename_i by_ r hs hby hr
  split at ha
  case h_2 => simp at ha
  rename_i k len hd
  split at ha
  case h_2 => simp at ha
  rename_i b d hk hdr
  split at ha
  case h_2 => simp at ha
  rename_i c hcat
  split at ha
  case isFalse => simp at ha
  rename_i hle
  obtain ⟨hown, h0, hle1, hle2⟩ := hle
  simp at ha
  obtain ⟨rfl, rfl⟩ := ha
  obtain ⟨kd, rfl⟩ := nat?_ok hmn hy
  have ht := slT_ok he
  have ht' := intT_ok hit
  obtain ⟨i, zv, hi, hzv, hz1, hrlen, hrv⟩ := zeroRow_ok hr
  obtain ⟨i', hi', hs'⟩ := szT_ok hs
  obtain ⟨i'', hi'', hby'⟩ := byT_ok hby
  rw [hi] at hi' hi''
  simp at hi' hi''
  subst hi' hi''
  have hext : ∀ p, Ext ρ (updρ ρ F p) := fun p => ext_updρ hF p
  have hun : ∀ p k, ρ k = .un → updρ ρ F p k ≠ .un → F ≤ k ∧ k < F + 16 := by
    intro p k h1 h2
    by_cases ek : k = F
    · omega
    · rw [updρ_other _ _ _ ek] at h2; exact absurd h1 h2
  obtain ⟨hcv, hcl⟩ := catRow_ok hcat
  have hdlen : d.len = len := (rowOf_ok hh hg hdr).1
  have hdst := sl_read hh hg hdr (one?_cells hd hx)
  have hk' := hg k b hk
  have htake := rowOf_take (ρ := ρ) hk hdr
  have hm48 : m * i.bytes ≤ 281474976710656 := by
    rw [hby']
    have := Nat.mul_le_mul_right by_ (Nat.le_add_left m len)
    omega
  have hgrow : ∀ (cap : Nat) (w1 : World), w1 = w.drew.alloc (.cells (d.vals.toArray ++ r.vals.toArray ++ Builtin.zeroCells zv.cells (grownCap w (len + m) cap e - (len + m))) e) →
      Post B ρ w h F (sc (.sl F 0 (len + m))) [(k, none), (F, some ⟨true, [c.item]⟩)] (.slice (some ⟨w.heap.size, 0, none⟩) (len + m) (grownCap w (len + m) cap e)) w1 := by
    intro cap w1 hw1
    have hge := grownCap_ge w (len + m) cap e
    have hsz : (d.vals.toArray ++ r.vals.toArray ++ Builtin.zeroCells zv.cells (grownCap w (len + m) cap e - (len + m))).size = grownCap w (len + m) cap e := by
      simp [size_zeroCells, hz1, Row.vals_length, hrlen, hdlen]
      omega
    obtain ⟨ρ', p1, p2, p3, p4, p5⟩ := Post.row hh hF hB (d.vals.toArray ++ r.vals.toArray ++ Builtin.zeroCells zv.cells (grownCap w (len + m) cap e - (len + m))) e [c.item] (d.vals ++ r.vals) (item_of_vals hcv) (by simp) (by simp only [Array.toList_append]; exact List.take_left) (.inr hw1) (sc (.sl F 0 (len + m))) (.slice (some ⟨w.heap.size, 0, none⟩) (len + m) (grownCap w (len + m) cap e))
      (VRepr_sc.2 (.inl ⟨_, grownCap w (len + m) cap e, updρ_same _ _ _, hge, by rw [hsz]; simp, by simp⟩))
    refine ⟨ρ', p1, p2, p3, p4.sub ?_, p5⟩
    intro j q hj
    simp only [applyU, updh] at hj ⊢
    split at hj
    · rename_i ej; rw [if_pos ej]; exact hj
    · rename_i ej; rw [if_neg ej]; split at hj <;> first | (simp at hj; done) | exact hj
  rcases one?_cells hd hx with ⟨L, cap, hL, hc1, hc2, hv⟩ | ⟨h00, hnu, a0, hv⟩
  · simp at hv
    subst hv
    have hb := hh.blk k b hk'
    simp only [BlkOk, hL] at hb
    obtain ⟨vs0, hvs0, hown', _⟩ := hb
    obtain ⟨hoff, _⟩ := hown' hown
    by_cases hroom : len + m ≤ cap
    · obtain ⟨w', s1, s2, s3, s4⟩ := hh.store (P := P) (off := len) (m := [c.item]) (nv := r.vals) hk' hown hL (fun vs cells hv hle ht hsize => by
        obtain ⟨t1, t2⟩ := htake vs hv
        rw [Row.vals_length, hrlen]
        refine ⟨by omega, d.vals ++ r.vals, item_of_vals hcv, by simp [Row.vals_length, hrlen, hdlen]; omega, ?_⟩
        have e1 : cells.take len = d.vals := by
          rw [t1]
          have := list_take_prefix (off := 0) (n := len) ht (by omega)
          simpa using this
        rw [e1, List.take_append_of_le_length (Nat.le_refl _), List.take_of_length_le (Nat.le_refl _)]) (Row.one r)
      rw [hrv] at s1
      have hrun := run_appendZ_inplace (P := P) w w' t t' ty e i zv kd ht ht' hi hzv hs' hz1 L.block L.off len cap m h0 (by omega) hm48 hroom s1
      have h2 := s2.move (k := k) (F := F) (b := ⟨true, [c.item]⟩) (by simp [updh]) hF
      have h3 : updh (updh (updh h k (some ⟨true, [c.item]⟩)) k none) F (some ⟨true, [c.item]⟩) = applyU h [(k, none), (F, some ⟨true, [c.item]⟩)] := by
        funext j
        simp only [applyU, updh]
        split
        · rfl
        · split <;> rfl
      refine ⟨_, w', hrun, updρ ρ F (ρ k), hext _, hun _, VRepr_sc.2 (.inl ⟨L, cap, by rw [updρ_same]; exact hL, hroom, by omega, by simp⟩), by rw [← h3]; exact h2, s3⟩
    · have holds : ∀ a, some (⟨L.block, L.off, none⟩ : Addr) = some a → ∀ j v, d.vals[j]? = some v → w.cell? (a.add j) = some v := by
        intro a ea j v hj
        simp at ea
        subst ea
        rcases hdst with ⟨a1, cap1, hv1, _, _, hcd⟩ | ⟨h00, hnil, a1, hv1⟩
        · simp at hv1
          obtain ⟨ea, ec⟩ := hv1
          subst ea ec
          exact hcd j v hj
        · rw [hnil] at hj
          simp at hj
      have hrun := run_appendZ_grow (P := P) w t t' ty e i zv kd ht ht' hi hzv hs' hz1 (some ⟨L.block, L.off, none⟩) len cap m d.vals (by rw [Row.vals_length, hdlen]) holds (fun q => by simp at q) h0 hle2 hm48 (by omega) (growslice_fits (by omega) (by rw [hby']; exact hle1))
      rw [← hrv] at hrun
      exact ⟨_, _, hrun, hgrow cap _ rfl⟩
  · simp at hv
    subst hv
    subst h00
    have hd0 : d.vals = [] := List.eq_nil_of_length_eq_zero (by rw [Row.vals_length, hdlen])
    have hrun := run_appendZ_grow (P := P) w t t' ty e i zv kd ht ht' hi hzv hs' hz1 a0 0 0 m d.vals (by rw [hd0]; rfl) (fun a _ j v hj => by rw [hd0] at hj; simp at hj) (fun _ => rfl) h0 hle2 hm48 (by omega) (growslice_fits (by omega) (by rw [hby']; exact hle1))
    rw [← hrv] at hrun
    exact ⟨_, _, hrun, hgrow 0 _ rfl⟩
end Go.Ev
