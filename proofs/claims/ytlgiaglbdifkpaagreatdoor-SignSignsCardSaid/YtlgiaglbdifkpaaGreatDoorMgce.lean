/- Texts put together: EvE. Own work. -/
import Derived.Test.YtlgiaglbdifkpaaGreatDoorMgcd
/- append, copy, make, literals, and comparisons of aggregates on the evaluator's memory. Own work; no statement of the seat is proved here. -/
namespace Go.Ev
open Go.RowKit

/-- Cells of a block of one's own are written, the known ones or those behind them. -/
theorem HOk.store {P : Program} {B : Nat} {ρ : Nat → Pl} {w : World} {h : Nat → Option Blk} {k off : Nat} {b : Blk} {L : Loc} {m : List IV} {nv : List Value}
    (hh : HOk B ρ w h) (hk : h k = some b) (ho : b.own = true) (hL : ρ k = .at L)
    (hm : ∀ vs (cells : List Value), LCells ρ b.items vs → vs.length ≤ cells.length → cells.take vs.length = vs → cells.length = L.size →
      off + nv.length ≤ cells.length ∧ ∃ us, LCells ρ m us ∧ us.length ≤ cells.length ∧ (cells.take off ++ nv ++ cells.drop (off + nv.length)).take us.length = us) (h1 : ∀ v ∈ nv, v.oneCell' = true) :
    ∃ w', (storeCells ⟨L.block, L.off + off, none⟩ nv).run P w = .ok () w' ∧ HOk B ρ w' (updh h k (some ⟨true, m⟩)) ∧ Below B w w' ∧ w'.heap.size = w.heap.size := by
  have hb := hh.blk k b hk
  simp only [BlkOk, hL] at hb
  obtain ⟨vs, hv, hown, _⟩ := hb
  obtain ⟨h0, hB, cells, ty, hc, hsz, hle, ht⟩ := hown ho
  obtain ⟨hfit, us, hu, hule, hut⟩ := hm vs cells.toList hv (by simpa using hle) ht (by simpa using hsz)
  have hst := run_storeCells_at P L.block off ty nv 0 cells w hc (by simpa using hfit) h1
  simp only [Nat.add_zero] at hst
  rw [h0, Nat.zero_add]
  refine ⟨_, hst, ⟨fun j c hj => ?_, fun j j' c c' hj hj' hne hoc Lj Lj' hLj hLj' => ?_⟩, below_setRow (Below.refl B w) hB _, by simp [World.setRow]⟩
  · by_cases e : j = k
    · subst e
      simp [updh] at hj
      subst hj
      simp only [BlkOk, hL]
      refine ⟨us, hu, fun _ => ⟨h0, hB, _, ty, setRow_heap w L.block cells _ ty (0, 0) hc, ?_, ?_, hut⟩, fun e => by simp at e⟩
      · simp at hfit ⊢; omega
      · simp at hfit hule ⊢; omega
    · simp [updh, e] at hj
      have hbj := hh.blk j c hj
      unfold BlkOk at hbj ⊢
      split
      · rename_i e'; simp only [e'] at hbj
      · rename_i e'; simp only [e'] at hbj; exact hbj
      · rename_i Lj e'
        simp only [e'] at hbj
        have hne := hh.inj k j b c hk hj (Ne.symm e) ho L Lj hL e'
        obtain ⟨us, hu, u1, u2⟩ := hbj
        refine ⟨us, hu, fun hoj => ?_, fun hoj => ?_⟩
        · obtain ⟨a1, a2, cs, ty', hcs, r⟩ := u1 hoj
          exact ⟨a1, a2, cs, ty', by rw [setRow_other _ _ _ _ (Ne.symm hne)]; exact hcs, r⟩
        · obtain ⟨a1, a2⟩ := u2 hoj
          refine ⟨by simpa [World.setRow] using a1, fun i v hi => ?_⟩
          rw [cell_setRow_other _ _ _ _ (Ne.symm hne)]
          exact a2 i v hi
  · have sub : ∀ j c, updh h k (some ⟨true, m⟩) j = some c → ∃ c0, h j = some c0 ∧ c0.own = c.own := by
      intro j c hj
      by_cases e : j = k
      · subst e; simp [updh] at hj; subst hj; exact ⟨b, hk, ho⟩
      · simp [updh, e] at hj; exact ⟨c, hj, rfl⟩
    obtain ⟨c0, hc0, e0⟩ := sub j c hj
    obtain ⟨c0', hc0', _⟩ := sub j' c' hj'
    exact hh.inj j j' c0 c0' hc0 hc0' hne (by rw [e0]; exact hoc) Lj Lj' hLj hLj'

/-- Of a block less is known. -/
theorem HOk.trunc {B : Nat} {ρ : Nat → Pl} {w : World} {h : Nat → Option Blk} {k n : Nat} {b : Blk} {m : List IV}
    (hh : HOk B ρ w h) (hk : h k = some b) (hm : ∀ vs, LCells ρ b.items vs → LCells ρ m (vs.take n)) : HOk B ρ w (updh h k (some ⟨b.own, m⟩)) := by
  refine ⟨fun j c hj => ?_, fun j j' c c' hj hj' hne hoc Lj Lj' hLj hLj' => ?_⟩
  · by_cases e : j = k
    · subst e
      simp [updh] at hj
      subst hj
      have hb := hh.blk j b hk
      unfold BlkOk at hb ⊢
      split
      · rename_i e'; simp only [e'] at hb
      · rename_i e'; simp only [e'] at hb; simpa using hm [] hb
      · rename_i L e'
        simp only [e'] at hb
        obtain ⟨vs, hv, h1, h2⟩ := hb
        refine ⟨vs.take n, hm vs hv, fun ho => ?_, fun ho => ?_⟩
        · obtain ⟨a1, a2, cells, ty, a3, a4, a5, a6⟩ := h1 ho
          refine ⟨a1, a2, cells, ty, a3, a4, by simp; omega, ?_⟩
          conv => rhs; rw [← a6]
          rw [List.take_take, List.length_take]
        · obtain ⟨a1, a2⟩ := h2 ho
          refine ⟨a1, fun i v hi => a2 i v ?_⟩
          rw [List.getElem?_take] at hi
          split at hi
          · exact hi
          · simp at hi
    · simp [updh, e] at hj; exact hh.blk j c hj
  · have sub : ∀ j c, updh h k (some ⟨b.own, m⟩) j = some c → ∃ c0, h j = some c0 ∧ c0.own = c.own := by
      intro j c hj
      by_cases e : j = k
      · subst e; simp [updh] at hj; subst hj; exact ⟨b, hk, rfl⟩
      · simp [updh, e] at hj; exact ⟨c, hj, rfl⟩
    obtain ⟨c0, hc0, e0⟩ := sub j c hj
    obtain ⟨c0', hc0', _⟩ := sub j' c' hj'
    exact hh.inj j j' c0 c0' hc0 hc0' hne (by rw [e0]; exact hoc) Lj Lj' hLj hLj'

/-- A block under a new number. -/
theorem HOk.move {B : Nat} {ρ : Nat → Pl} {w : World} {h : Nat → Option Blk} {k F : Nat} {b : Blk} (hh : HOk B ρ w h) (hk : h k = some b) (hF : ρ F = .un) :
    HOk B (updρ ρ F (ρ k)) w (updh (updh h k none) F (some b)) := by
  have he := ext_updρ hF (ρ k)
  have hkF : k ≠ F := fun e => (hh.blk k b hk).un (by rw [e]; exact hF)
  have pos : ∀ j c, updh (updh h k none) F (some b) j = some c → ∃ j', h j' = some c ∧ updρ ρ F (ρ k) j = ρ j' ∧ (j = F ∧ j' = k ∨ j ≠ F ∧ j' = j ∧ j ≠ k) := by
    intro j c hj
    by_cases e : j = F
    · subst e
      simp [updh] at hj
      subst hj
      exact ⟨k, hk, updρ_same _ _ _, .inl ⟨rfl, rfl⟩⟩
    · simp [updh, e] at hj
      by_cases e' : j = k
      · simp [e'] at hj
      · simp [e'] at hj
        exact ⟨j, hj, updρ_other _ _ _ e, .inr ⟨e, rfl, e'⟩⟩
  refine ⟨fun j c hj => ?_, fun j j' c c' hj hj' hne hoc Lj Lj' hLj hLj' => ?_⟩
  · obtain ⟨j', h1, h2, _⟩ := pos j c hj
    have := (hh.blk j' c h1).ext he
    unfold BlkOk at this ⊢
    have h3 : updρ ρ F (ρ k) j' = ρ j' := he j' (hh.blk j' c h1).un
    rw [h3] at this
    rw [h2]
    exact this
  · obtain ⟨i, h1, h2, h3⟩ := pos j c hj
    obtain ⟨i', h1', h2', h3'⟩ := pos j' c' hj'
    rw [h2] at hLj
    rw [h2'] at hLj'
    exact hh.inj i i' c c' h1 h1' (by rcases h3 with ⟨a, b⟩ | ⟨a, b, c⟩ <;> rcases h3' with ⟨a', b'⟩ | ⟨a', b', c'⟩ <;> omega) hoc Lj Lj' hLj hLj'

/-! ### append -/
def catRow : Row → Row → Option Row
  | .i l, .i m => some (.i (l ++ m))
  | .b l, .b m => some (.b (l ++ m))
  | .w l, .w m => some (.w (l ++ m))
  | .q l, .q m => some (.q (l ++ m))
  | .d x, .i m => some (.i (dg x ++ m))
  | .i l, .d y => some (.i (l ++ dg y))
  | .d x, .d y => some (.i (dg x ++ dg y))
  | _, _ => none
theorem catRow_ok {a b c : Row} (h : catRow a b = some c) : c.vals = a.vals ++ b.vals ∧ c.len = a.len + b.len := by
  cases a <;> cases b <;> simp [catRow] at h <;> subst h <;> simp [Row.vals, Row.len]

def oneZero : Option AV → Bool
  | some (.val false [.i64 _]) | some (.val false [.u8 _]) | some (.val false [.u32 _]) | some (.val false [.u64 _]) => true
  | _ => false

theorem oneZero_ok {P : Program} {e : TypeId} (h : oneZero (zT P e) = true) : ∃ i z, P.info? e = some i ∧ i.zero = some z ∧ z.cells.size = 1 := by
  cases hz : zT P e with
  | none => simp [hz, oneZero] at h
  | some x =>
    obtain ⟨i, z, hi, hz', hav⟩ := zT_ok hz
    refine ⟨i, z, hi, hz', ?_⟩
    rw [hz] at h
    have hv := hav (fun _ => .un)
    unfold oneZero at h
    split at h
    case h_5 => simp at h
    all_goals
      rename_i q
      simp only [Option.some.injEq] at q
      subst q
      have := LCells_length (val_cells hv)
      simpa [lsize, IV.size] using this

def aappend (P : Program) (t : TypeId) (dst src : AV) (get : Nat → Option Blk) (F : Nat) : Option (AV × Upd) :=
  match slT P t with
  | none => none
  | some e =>
    match szT P e, byT P e with
    | some 1, some by_ =>
      if oneZero (zT P e) then
        match src.sl? with
        | some (k', off', m) =>
          match rowOf get k' off' m with
          | some r =>
            match dst.one? with
            | some .nil => if m * by_ ≤ 140737488355328 ∧ m ≤ 9223372036854775807 then some (sc (.sl F 0 m), [(F, some ⟨true, [r.item]⟩)]) else none
            | some (.sl k 0 len) =>
              match get k, rowOf get k 0 len with
              | some b, some d =>
                match catRow d r with
                | some c => if b.own ∧ (len + m) * by_ ≤ 140737488355328 ∧ len + m ≤ 9223372036854775807 then some (sc (.sl F 0 (len + m)), [(k, none), (F, some ⟨true, [c.item]⟩)]) else none
                | none => none
              | _, _ => none
            | _ => none
          | none => none
        | none => none
      else none
    | _, _ => none

theorem run_append_none {P : Program} (w : World) (t ty e : TypeId) (ht : P.underlying t = some (.slice e)) (hs : szT P e = some 1) (base a : Option Addr) (n cap c : Nat) (h : n ≤ cap) :
    (Builtin.append_ #[t, t] ty #[.slice base n cap, .slice a 0 c]).run P w = .ok (.slice base n cap) w := by
  have hf : (Builtin.firstCells 1 0 (.slice a 0 c)).run P w = .ok #[] w := by
    cases a with
    | none => simp [Builtin.firstCells]
    | some a => simp [Builtin.firstCells, loadCells, loadCellsFrom]
  cases base with
  | none => simp [Builtin.append_, run_underlying ht, run_sizeT hs, Builtin.lenOf, hf, h]
  | some b => simp [Builtin.append_, run_underlying ht, run_sizeT hs, Builtin.lenOf, hf, h, storeCells]

theorem run_append_inplace {P : Program} (w w' : World) (t ty e : TypeId) (ht : P.underlying t = some (.slice e)) (hs : szT P e = some 1) (g off n cap : Nat) (a : Addr) (m c : Nat) (news : List Value)
    (hl : news.length = m) (hnews : ∀ j u, news[j]? = some u → w.cell? (a.add j) = some u) (hroom : n + m ≤ cap) (hst : (storeCells ⟨g, off + n, none⟩ news).run P w = .ok () w') :
    (Builtin.append_ #[t, t] ty #[.slice (some ⟨g, off, none⟩) n cap, .slice (some a) m c]).run P w = .ok (.slice (some ⟨g, off, none⟩) (n + m) cap) w' := by
  have hf := run_firstCells_some (P := P) w 1 m a m c news (by simpa using hl) hnews
  simp [Builtin.append_, run_underlying ht, run_sizeT hs, Builtin.lenOf, hroom, hf, Addr_add_at, hst]

theorem list_take_prefix {α : Type} {cells vs : List α} {off n : Nat} (ht : cells.take vs.length = vs) (h : off + n ≤ vs.length) : (cells.drop off).take n = (vs.drop off).take n := by
  conv => rhs; rw [← ht]
  rw [List.drop_take, List.take_take, Nat.min_eq_left (by omega)]

theorem rowOf_take {ρ : Nat → Pl} {get : Nat → Option Blk} {k len : Nat} {r : Row} {b : Blk}
    (hk : get k = some b) (hr : rowOf get k 0 len = some r) : ∀ vs, LCells ρ b.items vs → r.vals = vs.take len ∧ len ≤ vs.length := by
  intro vs hv
  unfold rowOf at hr
  rw [hk] at hr
  simp only at hr
  split at hr
  case h_6 => simp at hr
  case h_4 =>
    rename_i x hi
    rw [hi] at hv
    have e := vd_cells hv
    subst e
    split at hr
    · rename_i hc
      simp at hr
      subst hr
      rw [hc.2]
      simp only [Row.vals]
      exact ⟨(List.take_of_length_le (by simp)).symm, by simp⟩
    · split at hr
      case isFalse => simp at hr
      rename_i hle
      simp at hr
      subst hr
      simp only [Row.vals, cutL_eq rfl]
      simp
      omega
  all_goals
    rename_i n l hi
    split at hr
    case isFalse => simp at hr
    rename_i hle
    simp at hr
    subst hr
    rw [hi] at hv
  · obtain ⟨h1, rfl⟩ := vi_cells hv; simp only [Row.vals, cutL_eq h1]; simp; omega
  · obtain ⟨h1, rfl⟩ := v8_cells hv; simp only [Row.vals, cutL_eq h1]; simp; omega
  · obtain ⟨h1, rfl⟩ := v32_cells hv; simp only [Row.vals, cutL_eq h1]; simp; omega
  · obtain ⟨h1, rfl⟩ := v64_cells hv; simp only [Row.vals, cutL_eq h1]; simp; omega

theorem item_of_vals {ρ : Nat → Pl} {r : Row} {vs : List Value} (h : r.vals = vs) : LCells ρ [r.item] vs := by rw [← h]; exact Row.item_cells r

theorem byT_ok {P : Program} {t : TypeId} {n : Nat} (h : byT P t = some n) : ∃ i, P.info? t = some i ∧ i.bytes = n := by
  unfold byT at h
  cases hi : P.info? t with
  | none => simp [hi] at h
  | some i => simp [hi] at h; exact ⟨i, rfl, h⟩

theorem aappend_sound {P : Program} {B : Nat} {ρ : Nat → Pl} {w : World} {h : Nat → Option Blk} {F : Nat} {t ty : TypeId} {x y z : AV} {upd : Upd} {get : Nat → Option Blk} {v u : Value}
    (hh : HOk B ρ w h) (hg : ∀ k b, get k = some b → h k = some b) (hF : ρ F = .un) (hB : B ≤ w.heap.size) (hx : VRepr ρ x v) (hy : VRepr ρ y u) (ha : aappend P t x y get F = some (z, upd)) :
    ∃ r w', (Builtin.append_ #[t, t] ty #[v, u]).run P w = .ok r w' ∧ Post B ρ w h F z upd r w' := by
  unfold aappend at ha
  split at ha
  · simp at ha
  rename_i e he
  split at ha
  case h_2 => simp at ha
  rename_i by_ hs hby
  split at ha
  case isFalse => simp at ha
  rename_i hz
  split at ha
  case h_2 => simp at ha
  rename_i k' off' m hsl
  split at ha
  case h_2 => simp at ha
  rename_i r hr
  have ht := slT_ok he
  obtain ⟨i, zv, hi, hzv, hz1⟩ := oneZero_ok hz
  obtain ⟨i', hi', hs'⟩ := szT_ok hs
  obtain ⟨i'', hi'', hby'⟩ := byT_ok hby
  rw [hi] at hi' hi''
  simp at hi' hi''
  subst hi' hi''
  have hsrc := sl_read hh hg hr (sl?_ok hsl hy)
  have hrlen : r.len = m := (rowOf_ok hh hg hr).1
  have hext : ∀ p, Ext ρ (updρ ρ F p) := fun p => ext_updρ hF p
  have hun : ∀ p k, ρ k = .un → updρ ρ F p k ≠ .un → F ≤ k ∧ k < F + 16 := by
    intro p k h1 h2
    by_cases ek : k = F
    · omega
    · rw [updρ_other _ _ _ ek] at h2; exact absurd h1 h2
  split at ha
  · -- onto nil
    rename_i hd
    split at ha
    case isFalse => simp at ha
    rename_i hle
    simp at ha
    obtain ⟨rfl, rfl⟩ := ha
    have hv := one?_cells hd hx
    simp [ICells, PCells] at hv
    subst hv
    by_cases hm : m = 0
    · subst hm
      obtain ⟨a, c, rfl⟩ : ∃ a c, u = .slice a 0 c := by
        rcases hsrc with ⟨a, c, rfl, _⟩ | ⟨_, _, a, rfl⟩
        · exact ⟨some a, c, rfl⟩
        · exact ⟨a, 0, rfl⟩
      refine ⟨_, w, run_append_none w t ty e ht hs none a 0 0 c (Nat.le_refl _), updρ ρ F .ph, hext _, hun _, VRepr_sc.2 (.inr ⟨rfl, by rw [updρ_same]; simp, none, rfl⟩), ?_, Below.refl B w⟩
      refine hh.add hF .ph _ (fun _ _ => rfl) (Nat.le_refl _) (fun L hL => by simp at hL) ?_
      simp only [BlkOk, updρ_same]
      exact item_of_vals (List.eq_nil_of_length_eq_zero (by rw [Row.vals_length, hrlen]))
    · rcases hsrc with ⟨a, c, rfl, _, _, hc⟩ | ⟨h0, _⟩
      · have hrun := run_append_nil (P := P) w t ty e i zv ht hi hzv a m c r.vals (by rw [Row.vals_length, hrlen, hs']; omega) hc (by omega) (by omega) (by rw [hby']; omega)
        refine ⟨_, _, hrun, ?_⟩
        refine Post.row hh hF hB _ e [r.item] r.vals (Row.item_cells r) (by simp) (by simp) (.inr rfl) _ _ (VRepr_sc.2 (.inl ⟨_, grownCap w m 0 e, updρ_same _ _ _, grownCap_ge w m 0 e, ?_, by simp⟩))
        have := grownCap_ge w m 0 e
        simp [size_zeroCells, hz1, Row.vals_length, hrlen]
        omega
      · omega
  · -- onto a slice
    rename_i k len hd
    split at ha
    case h_2 => simp at ha
    rename_i b d hk hdr
    split at ha
    case h_2 => simp at ha
    rename_i c hcat
    split at ha
    case isFalse => simp at ha
    rename_i hle
    obtain ⟨hown, hle1, hle2⟩ := hle
    simp at ha
    obtain ⟨rfl, rfl⟩ := ha
    obtain ⟨hcv, hcl⟩ := catRow_ok hcat
    have hdlen : d.len = len := (rowOf_ok hh hg hdr).1
    have hdst := sl_read hh hg hdr (one?_cells hd hx)
    have hk' := hg k b hk
    have htake := rowOf_take (ρ := ρ) hk hdr
    have hkF : k ≠ F := fun e => (hh.blk k b hk').un (by rw [e]; exact hF)
    -- nothing is appended, or there is room, or there is none
    by_cases hm : m = 0
    · subst hm
      obtain ⟨a, c', rfl⟩ : ∃ a c, u = .slice a 0 c := by
        rcases hsrc with ⟨a, c, rfl, _⟩ | ⟨_, _, a, rfl⟩
        · exact ⟨some a, c, rfl⟩
        · exact ⟨a, 0, rfl⟩
      have hr0 : r.vals = [] := List.eq_nil_of_length_eq_zero (by rw [Row.vals_length, hrlen])
      have h1 := hh.trunc (n := len) (m := [c.item]) hk' (fun vs hv => item_of_vals (by rw [hcv, hr0, List.append_nil]; exact (htake vs hv).1))
      have h2 := h1.move (k := k) (F := F) (b := ⟨b.own, [c.item]⟩) (by simp [updh]) hF
      have h3 : updh (updh (updh h k (some ⟨b.own, [c.item]⟩)) k none) F (some ⟨b.own, [c.item]⟩) = applyU h [(k, none), (F, some ⟨true, [c.item]⟩)] := by
        funext j
        simp only [applyU, updh, hown]
        split
        · rfl
        · split <;> rfl
      have hcells := one?_cells hd hx
      rcases hcells with ⟨L, cap, hL, hc1, hc2, hv⟩ | ⟨h0, hnu, a0, hv⟩
      · simp at hv
        subst hv
        refine ⟨_, w, run_append_none w t ty e ht hs _ a len cap c' hc1, updρ ρ F (ρ k), hext _, hun _, VRepr_sc.2 (.inl ⟨L, cap, by rw [updρ_same]; exact hL, by omega, by omega, by simp⟩), by rw [← h3]; exact h2, Below.refl B w⟩
      · simp at hv
        subst hv
        subst h0
        refine ⟨_, w, run_append_none w t ty e ht hs _ a 0 0 c' (Nat.le_refl _), updρ ρ F (ρ k), hext _, hun _, VRepr_sc.2 (.inr ⟨rfl, by rw [updρ_same]; exact hnu, a0, rfl⟩), by rw [← h3]; exact h2, Below.refl B w⟩
    · rcases hsrc with ⟨a, c', rfl, _, _, hc⟩ | ⟨h0, _⟩
      case inr => omega
      have hgrow : ∀ (cap : Nat) (cells : Array Value) (w1 : World), w1 = w.drew.alloc (.cells (d.vals.toArray ++ r.vals.toArray ++ Builtin.zeroCells zv.cells (grownCap w (len + m) cap e - (len + m))) e) →
          Post B ρ w h F (sc (.sl F 0 (len + m))) [(k, none), (F, some ⟨true, [c.item]⟩)] (.slice (some ⟨w.heap.size, 0, none⟩) (len + m) (grownCap w (len + m) cap e)) w1 := by
        intro cap _ w1 hw1
        have hge := grownCap_ge w (len + m) cap e
        have hsz : (d.vals.toArray ++ r.vals.toArray ++ Builtin.zeroCells zv.cells (grownCap w (len + m) cap e - (len + m))).size = grownCap w (len + m) cap e := by
          simp [size_zeroCells, hz1, Row.vals_length, hrlen, hdlen]
          omega
        obtain ⟨ρ', p1, p2, p3, p4, p5⟩ := Post.row hh hF hB (d.vals.toArray ++ r.vals.toArray ++ Builtin.zeroCells zv.cells (grownCap w (len + m) cap e - (len + m))) e [c.item] (d.vals ++ r.vals) (item_of_vals hcv) (by simp) (by simp only [Array.toList_append]; exact List.take_left) (.inr hw1) (sc (.sl F 0 (len + m))) (.slice (some ⟨w.heap.size, 0, none⟩) (len + m) (grownCap w (len + m) cap e))
          (VRepr_sc.2 (.inl ⟨_, grownCap w (len + m) cap e, updρ_same _ _ _, hge, by rw [hsz]; simp, by simp⟩))
        refine ⟨ρ', p1, p2, p3, p4.sub ?_, p5⟩
        intro j q hj
        simp only [applyU, updh] at hj ⊢
        split at hj
        · rename_i ej; rw [if_pos ej]; exact hj
        · rename_i ej; rw [if_neg ej]; split at hj <;> first | (simp at hj; done) | exact hj
      have holds : (P.info? e).isSome = true := by rw [hi]; rfl
      rcases one?_cells hd hx with ⟨L, cap, hL, hc1, hc2, hv⟩ | ⟨h0, hnu, a0, hv⟩
      · simp at hv
        subst hv
        have hb := hh.blk k b hk'
        simp only [BlkOk, hL] at hb
        obtain ⟨vs0, hvs0, hown', _⟩ := hb
        obtain ⟨hoff, _⟩ := hown' hown
        by_cases hroom : len + m ≤ cap
        · obtain ⟨w', s1, s2, s3, s4⟩ := hh.store (P := P) (off := len) (m := [c.item]) (nv := r.vals) hk' hown hL (fun vs cells hv hle ht hsize => by
            obtain ⟨t1, t2⟩ := htake vs hv
            rw [Row.vals_length, hrlen]
            refine ⟨by omega, d.vals ++ r.vals, item_of_vals hcv, by simp [Row.vals_length, hrlen, hdlen]; omega, ?_⟩
            have e1 : cells.take len = d.vals := by
              rw [t1]
              have := list_take_prefix (off := 0) (n := len) ht (by omega)
              simpa using this
            rw [e1, List.take_append_of_le_length (Nat.le_refl _), List.take_of_length_le (Nat.le_refl _)]) (Row.one r)
          have hrun := run_append_inplace (P := P) w w' t ty e ht hs L.block L.off len cap a m c' r.vals (by rw [Row.vals_length, hrlen]) hc hroom s1
          have h2 := s2.move (k := k) (F := F) (b := ⟨true, [c.item]⟩) (by simp [updh]) hF
          have h3 : updh (updh (updh h k (some ⟨true, [c.item]⟩)) k none) F (some ⟨true, [c.item]⟩) = applyU h [(k, none), (F, some ⟨true, [c.item]⟩)] := by
            funext j
            simp only [applyU, updh]
            split
            · rfl
            · split <;> rfl
          refine ⟨_, w', hrun, updρ ρ F (ρ k), hext _, hun _, VRepr_sc.2 (.inl ⟨L, cap, by rw [updρ_same]; exact hL, hroom, by omega, by simp⟩), by rw [← h3]; exact h2, s3⟩
        · rcases hdst with ⟨a1, cap1, hv1, _, _, hcd⟩ | ⟨h0, hnil, a1, hv1⟩
          · simp at hv1
            obtain ⟨ea, ec⟩ := hv1
            subst ea ec
            have hrun := run_append_grow (P := P) w t ty e i zv ht hi hzv ⟨L.block, L.off, none⟩ len cap d.vals (by rw [Row.vals_length, hdlen, hs']; omega) hcd a m c' r.vals (by rw [Row.vals_length, hrlen, hs']; omega) hc (by omega) (by omega) (growslice_fits (by omega) (by rw [hby']; exact hle1))
            exact ⟨_, _, hrun, hgrow cap #[] _ rfl⟩
          · simp at hv1
            obtain ⟨ea, e0, ec⟩ := hv1
            subst ec
            have hrun := run_append_grow (P := P) w t ty e i zv ht hi hzv ⟨L.block, L.off, none⟩ len 0 d.vals (by rw [Row.vals_length, hdlen, hs']; omega) (by rw [hnil]; simp) a m c' r.vals (by rw [Row.vals_length, hrlen, hs']; omega) hc (by omega) (by omega) (growslice_fits (by omega) (by rw [hby']; exact hle1))
            exact ⟨_, _, hrun, hgrow 0 #[] _ rfl⟩
      · simp at hv
        subst hv
        subst h0
        simp only [Nat.zero_add] at hle1
        have hd0 : d.vals = [] := List.eq_nil_of_length_eq_zero (by rw [Row.vals_length, hdlen])
        cases a0 with
        | none =>
          have hrun := run_append_nil (P := P) w t ty e i zv ht hi hzv a m c' r.vals (by rw [Row.vals_length, hrlen, hs']; omega) hc (by omega) (by omega) (by rw [hby']; omega)
          have := hgrow 0 #[] _ rfl
          rw [hd0] at this
          simp only [Nat.zero_add] at this hrun ⊢
          refine ⟨_, _, hrun, ?_⟩
          simpa using this
        | some a0 =>
          have hrun := run_append_grow (P := P) w t ty e i zv ht hi hzv a0 0 0 d.vals (by rw [hd0]; simp) (by rw [hd0]; simp) a m c' r.vals (by rw [Row.vals_length, hrlen, hs']; omega) hc (by omega) (by omega) (growslice_fits (by omega) (by rw [hby', Nat.zero_add]; exact hle1))
          exact ⟨_, _, hrun, hgrow 0 #[] _ rfl⟩
  · simp at ha
end Go.Ev
