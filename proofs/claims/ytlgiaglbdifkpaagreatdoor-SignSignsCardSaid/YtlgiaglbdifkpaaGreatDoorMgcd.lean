/- Texts put together: EvD. Own work. -/
import Derived.Test.YtlgiaglbdifkpaaGreatDoorMgcc
/- The other operations of the model on the evaluator's memory. Own work; no statement of the seat is proved here. -/
namespace Go.Ev
open Go.RowKit

theorem amount_val {ρ : Nat → Pl} {i : IV} {n : Nat} {v : Value} (h : amount i = some n) (hv : ICells ρ i [v]) : ∃ k, v = .int k (n : Int) := by
  obtain ⟨k, m, h1, h2⟩ := amount_ok h
  have : PCells i = some [v] := by cases i <;> first | exact hv | (simp [PCells] at h1)
  rw [h1] at this
  simp at this
  exact ⟨k, by rw [← this, h2]⟩

def AV.nat? (x : AV) : Option Nat :=
  match x.one? with
  | some i => amount i
  | none => none
theorem nat?_ok {ρ : Nat → Pl} {x : AV} {n : Nat} {v : Value} (h : x.nat? = some n) (hv : VRepr ρ x v) : ∃ k, v = .int k (n : Int) := by
  unfold AV.nat? at h
  split at h
  · rename_i i hi; exact amount_val h (one?_cells hi hv)
  · simp at h

def AV.sl? (x : AV) : Option (Nat × Nat × Nat) :=
  match x.one? with
  | some (.sl k off len) => some (k, off, len)
  | _ => none
theorem sl?_ok {ρ : Nat → Pl} {x : AV} {k off len : Nat} {v : Value} (h : x.sl? = some (k, off, len)) (hv : VRepr ρ x v) : ICells ρ (.sl k off len) [v] := by
  unfold AV.sl? at h
  split at h
  · rename_i k' off' len' h1
    simp at h
    obtain ⟨rfl, rfl, rfl⟩ := h
    exact one?_cells h1 hv
  · simp at h

/-! ### Addresses -/
def aindexAddr (P : Program) (t : TypeId) (x i : AV) : Option (AV × Upd) :=
  match i.nat? with
  | none => none
  | some j =>
    match x.ptr? with
    | some (k, off) =>
      match arrT P t with
      | some (n, e) => match szT P e with
        | some s => if j < n then some (sc (.ptr k (off + j * s)), []) else none
        | none => none
      | none => none
    | none =>
      match x.sl? with
      | some (k, off, len) =>
        match slT P t with
        | some e => match szT P e with
          | some s => if j < len then some (sc (.ptr k (off + j * s)), []) else none
          | none => none
        | none => none
      | none => none

theorem aindexAddr_sound {P : Program} {B : Nat} {ρ : Nat → Pl} {w : World} {h : Nat → Option Blk} {F : Nat} {t : TypeId} {x i y : AV} {upd : Upd} {v u : Value}
    (hh : HOk B ρ w h) (hx : VRepr ρ x v) (hi : VRepr ρ i u) (ha : aindexAddr P t x i = some (y, upd)) :
    ∃ r w', (Instr.indexAt t v u).run P w = .ok r w' ∧ Post B ρ w h F y upd r w' := by
  unfold aindexAddr at ha
  split at ha
  · simp at ha
  rename_i j hj
  obtain ⟨kd, rfl⟩ := nat?_ok hj hi
  split at ha
  · rename_i k off hp
    obtain ⟨L, hL, rfl⟩ := ptr?_ok hp hx
    split at ha
    case h_2 => simp at ha
    rename_i n e harr
    split at ha
    case h_2 => simp at ha
    rename_i s hs
    split at ha
    case isFalse => simp at ha
    rename_i hlt
    simp at ha
    obtain ⟨rfl, rfl⟩ := ha
    refine ⟨.pointer (some ⟨L.block, L.off + off + j * s, none⟩), w, ?_, Post.pure hh (VRepr_sc.2 ⟨L, hL, by simp [Nat.add_assoc]⟩)⟩
    have h0 : (0 : Int) ≤ j ∧ (j : Int) < n := by omega
    simp [Instr.indexAt, asIntOf, run_underlying (arrT_ok harr), Instr.sureAddr, hlt, run_sizeT hs, Addr_add_at]
  · split at ha
    case h_2 => simp at ha
    rename_i k off len hp
    split at ha
    case h_2 => simp at ha
    rename_i e hsl
    split at ha
    case h_2 => simp at ha
    rename_i s hs
    split at ha
    case isFalse => simp at ha
    rename_i hlt
    simp at ha
    obtain ⟨rfl, rfl⟩ := ha
    rcases sl?_ok hp hx with ⟨L, cap, hL, hc1, hc2, hv⟩ | ⟨h0, _⟩
    · simp at hv
      subst hv
      refine ⟨.pointer (some ⟨L.block, L.off + off + j * s, none⟩), w, ?_, Post.pure hh (VRepr_sc.2 ⟨L, hL, by simp [Nat.add_assoc]⟩)⟩
      simp [Instr.indexAt, asIntOf, run_underlying (slT_ok hsl), hlt, run_sizeT hs, Addr_add_at]
    · omega

def afieldAddr (P : Program) (t : TypeId) (x : AV) (f : Nat) : Option (AV × Upd) :=
  match x.ptr? with
  | some (k, off) => match fieldT P t f with
    | some (o, _) => some (sc (.ptr k (off + o)), [])
    | none => none
  | none => none

theorem fieldT_ok {P : Program} {t ft : TypeId} {f o : Nat} (h : fieldT P t f = some (o, ft)) :
    ∃ fs x i, P.underlying t = some (.struct fs) ∧ fs[f]? = some x ∧ P.info? x.type = some i ∧ i.size ≠ 0 ∧ x.offset = o ∧ x.type = ft := by
  unfold fieldT at h
  split at h
  case h_2 => simp at h
  rename_i fs hu
  split at h
  case h_2 => simp at h
  rename_i x hx
  split at h
  case h_2 => simp at h
  rename_i i hi
  split at h <;> simp at h
  rename_i hz
  exact ⟨fs, x, i, hu, hx, hi, hz, h.1, h.2⟩

theorem afieldAddr_sound {P : Program} {B : Nat} {ρ : Nat → Pl} {w : World} {h : Nat → Option Blk} {F : Nat} {t : TypeId} {x y : AV} {f : Nat} {upd : Upd} {v : Value}
    (hh : HOk B ρ w h) (hx : VRepr ρ x v) (ha : afieldAddr P t x f = some (y, upd)) :
    ∃ r w', (Instr.fieldAt t v f).run P w = .ok r w' ∧ Post B ρ w h F y upd r w' := by
  unfold afieldAddr at ha
  split at ha
  case h_2 => simp at ha
  rename_i k off hp
  obtain ⟨L, hL, rfl⟩ := ptr?_ok hp hx
  split at ha
  case h_2 => simp at ha
  rename_i o ft hf
  simp at ha
  obtain ⟨rfl, rfl⟩ := ha
  obtain ⟨fs, fx, i, hu, hfx, hi, hz, rfl, _⟩ := fieldT_ok hf
  refine ⟨.pointer (some ⟨L.block, L.off + off + fx.offset, none⟩), w, ?_, Post.pure hh (VRepr_sc.2 ⟨L, hL, by simp [Nat.add_assoc]⟩)⟩
  simp [Instr.fieldAt, run_underlying hu, hfx, Instr.sureAddr, fieldPlace, sizeOf, typeInfo, hi, hz, Addr_add_at]

/-! ### Parts of values -/
def aextract (x : AV) (i : Nat) : Option (AV × Upd) :=
  match x with
  | .tup l => match l[i]? with
    | some p => some (.val p.1 p.2, [])
    | none => none
  | _ => none

theorem aextract_sound {P : Program} {B : Nat} {ρ : Nat → Pl} {w : World} {h : Nat → Option Blk} {F : Nat} {x y : AV} {i : Nat} {upd : Upd} {v : Value}
    (hh : HOk B ρ w h) (hx : VRepr ρ x v) (ha : aextract x i = some (y, upd)) :
    ∃ r w', (Instr.extract v i).run P w = .ok r w' ∧ Post B ρ w h F y upd r w' := by
  unfold aextract at ha
  split at ha
  case h_2 => simp at ha
  rename_i l
  split at ha
  case h_2 => simp at ha
  rename_i p hp
  simp at ha
  obtain ⟨rfl, rfl⟩ := ha
  obtain ⟨vs, rfl, hF2⟩ := hx
  obtain ⟨u, h1, h2⟩ := hF2.get hp
  refine ⟨u, w, ?_, Post.pure hh h2⟩
  simp [Instr.extract, h1]

/-- A part of an aggregate that is a value. -/
def apart (P : Program) (t : TypeId) (l : List IV) (off : Nat) : Option AV :=
  match aggT P t, szT P t with
  | some true, some n => (getRange l off n).map (.val true ·)
  | some false, some _ => (getCell l off).map sc
  | _, _ => none

theorem apart_sound {P : Program} {ρ : Nat → Pl} {w : World} {t : TypeId} {l : List IV} {off : Nat} {y : AV} {vs : List Value} (hl : LCells ρ l vs) (ha : apart P t l off = some y) :
    ∃ r, (part t vs.toArray off).run P w = .ok r w ∧ VRepr ρ y r := by
  unfold apart at ha
  split at ha
  case h_3 => simp at ha
  · rename_i n hag hsz
    cases hr : getRange l off n with
    | none => simp [hr] at ha
    | some m =>
      simp [hr] at ha
      subst ha
      obtain ⟨h1, h2⟩ := getRange_ok hl hr
      refine ⟨.agg ((vs.drop off).take n).toArray, ?_, _, h2, by simp⟩
      simp [part, run_aggT hag, run_sizeT hsz]
  · rename_i n hag hsz
    cases hr : getCell l off with
    | none => simp [hr] at ha
    | some c =>
      simp [hr] at ha
      subst ha
      obtain ⟨u, h1, h2⟩ := getCell_ok hl hr
      refine ⟨u, ?_, VRepr_sc.2 h2⟩
      simp [part, run_aggT hag, h1]

def afield (P : Program) (t : TypeId) (x : AV) (f : Nat) : Option (AV × Upd) :=
  match x with
  | .val true l => match fieldT P t f with
    | some (o, ft) => (apart P ft l o).map (·, [])
    | none => none
  | _ => none

theorem afield_sound {P : Program} {B : Nat} {ρ : Nat → Pl} {w : World} {h : Nat → Option Blk} {F : Nat} {t : TypeId} {x y : AV} {f : Nat} {upd : Upd} {v : Value}
    (hh : HOk B ρ w h) (hx : VRepr ρ x v) (ha : afield P t x f = some (y, upd)) :
    ∃ r w', (Instr.field t v f).run P w = .ok r w' ∧ Post B ρ w h F y upd r w' := by
  unfold afield at ha
  split at ha
  case h_2 => simp at ha
  rename_i l
  split at ha
  case h_2 => simp at ha
  rename_i o ft hf
  cases hp : apart P ft l o with
  | none => simp [hp] at ha
  | some y' =>
    simp [hp] at ha
    obtain ⟨rfl, rfl⟩ := ha
    obtain ⟨vs, h1, h2⟩ := hx
    simp at h2
    subst h2
    obtain ⟨fs, fx, i, hu, hfx, hi, hz, rfl, rfl⟩ := fieldT_ok hf
    obtain ⟨r, hr, hv⟩ := apart_sound (w := w) h1 hp
    exact ⟨r, w, by simp [Instr.field, run_underlying hu, hfx, asAgg, hr], Post.pure hh hv⟩

def aindex (P : Program) (t : TypeId) (x i : AV) : Option (AV × Upd) :=
  match x, i.nat? with
  | .val true l, some j =>
    match arrT P t with
    | some (n, e) => match szT P e with
      | some s => if j < n then (apart P e l (j * s)).map (·, []) else none
      | none => none
    | none => none
  | _, _ => none

theorem aindex_sound {P : Program} {B : Nat} {ρ : Nat → Pl} {w : World} {h : Nat → Option Blk} {F : Nat} {t : TypeId} {x i y : AV} {upd : Upd} {v u : Value}
    (hh : HOk B ρ w h) (hx : VRepr ρ x v) (hi : VRepr ρ i u) (ha : aindex P t x i = some (y, upd)) :
    ∃ r w', (Instr.index t v u).run P w = .ok r w' ∧ Post B ρ w h F y upd r w' := by
  unfold aindex at ha
  split at ha
  case h_2 => simp at ha
  rename_i l j hj
  obtain ⟨kd, rfl⟩ := nat?_ok hj hi
  split at ha
  case h_2 => simp at ha
  rename_i n e harr
  split at ha
  case h_2 => simp at ha
  rename_i s hs
  split at ha
  case isFalse => simp at ha
  rename_i hlt
  cases hp : apart P e l (j * s) with
  | none => simp [hp] at ha
  | some y' =>
    simp [hp] at ha
    obtain ⟨rfl, rfl⟩ := ha
    obtain ⟨vs, h1, h2⟩ := hx
    simp at h2
    subst h2
    obtain ⟨r, hr, hv⟩ := apart_sound (w := w) h1 hp
    exact ⟨r, w, by simp [Instr.index, asIntOf, run_underlying (arrT_ok harr), hlt, run_sizeT hs, hr], Post.pure hh hv⟩

def aarrayAt (P : Program) (t : TypeId) (x : AV) : Option (AV × Upd) :=
  match x.sl? with
  | some (k, off, len) => match arrT P t with
    | some (n, _) => if 0 < n ∧ n ≤ len then some (sc (.ptr k off), []) else none
    | none => none
  | none => none

theorem aarrayAt_sound {P : Program} {B : Nat} {ρ : Nat → Pl} {w : World} {h : Nat → Option Blk} {F : Nat} {t : TypeId} {x y : AV} {upd : Upd} {v : Value}
    (hh : HOk B ρ w h) (hx : VRepr ρ x v) (ha : aarrayAt P t x = some (y, upd)) :
    ∃ r w', (Instr.arrayAt t v).run P w = .ok r w' ∧ Post B ρ w h F y upd r w' := by
  unfold aarrayAt at ha
  split at ha
  case h_2 => simp at ha
  rename_i k off len hp
  split at ha
  case h_2 => simp at ha
  rename_i n e harr
  split at ha
  case isFalse => simp at ha
  rename_i hlt
  simp at ha
  obtain ⟨rfl, rfl⟩ := ha
  rcases sl?_ok hp hx with ⟨L, cap, hL, hc1, hc2, hv⟩ | ⟨h0, _⟩
  · simp at hv
    subst hv
    exact ⟨_, w, run_arrayAt (P := P) w t e n _ len cap (arrT_ok harr) hlt.2, Post.pure hh (VRepr_sc.2 ⟨L, hL, rfl⟩)⟩
  · omega

/-! ### Slices -/
def natOr (x : Option AV) (d : Nat) : Option Nat :=
  match x with
  | none => some d
  | some v => v.nat?

/-- 'x[lo:hi:max]' of a slice, or of an array that lies in memory. -/
def aslice (P : Program) (t : TypeId) (x : AV) (lo hi mx : Option AV) (get : Nat → Option Blk) : Option (AV × Upd) :=
  match x.ptr? with
  | some (k, off) =>
    match arrT P t, get k with
    | some (n, e), some b =>
      match szT P e, natOr lo 0, natOr hi n, mx with
      | some 1, some l, some m, none => if l ≤ m ∧ m ≤ n ∧ off + n ≤ lsize b.items ∧ b.own = true then some (sc (.sl k (off + l) (m - l)), []) else none
      | _, _, _, _ => none
    | _, _ => none
  | none =>
    match x.sl? with
    | some (k, off, len) =>
      match slT P t with
      | some e =>
        match szT P e, natOr lo 0, natOr hi len, natOr mx len with
        | some 1, some l, some m, some c => if l ≤ m ∧ m ≤ c ∧ c ≤ len ∧ (mx.isSome → hi.isSome) then some (sc (.sl k (off + l) (m - l)), []) else none
        | _, _, _, _ => none
      | none => none
    | none => none

def OptR (ρ : Nat → Pl) (x : Option AV) (v : Option Value) : Prop := match x, v with | none, none => True | some a, some b => VRepr ρ a b | _, _ => False

theorem natOr_ok {ρ : Nat → Pl} {x : Option AV} {v : Option Value} {d n : Nat} (h : natOr x d = some n) (hv : OptR ρ x v) :
    (v = none ∧ n = d) ∨ ∃ k, v = some (.int k (n : Int)) := by
  cases x with
  | none => cases v with
    | none => simp [natOr] at h; exact .inl ⟨rfl, h.symm⟩
    | some b => exact hv.elim
  | some a => cases v with
    | none => exact hv.elim
    | some b => obtain ⟨k, rfl⟩ := nat?_ok h hv; exact .inr ⟨k, rfl⟩

theorem run_bounds {P : Program} (w : World) (isSlice : Bool) (len cap l m c : Nat) (lo hi mx : Option Value)
    (h1 : (lo = none ∧ l = 0) ∨ ∃ k, lo = some (.int k (l : Int))) (h2 : (hi = none ∧ m = len) ∨ ∃ k, hi = some (.int k (m : Int)))
    (h3 : (mx = none ∧ c = cap) ∨ ((∃ k, mx = some (.int k (c : Int))) ∧ hi ≠ none)) (hl : l ≤ m) (hm : m ≤ c) (hc : c ≤ cap) :
    (Instr.sliceBounds isSlice len cap lo hi mx).run P w = .ok (l, m, c) w := by
  have b : ∀ (k : IntKind) (i y : Nat) (code : BoundsCode), i ≤ y → (Instr.sliceBound (.int k (i : Int)) y code).run P w = .ok i w := fun k i y code h => by
    rw [run_sliceBound w k i y code (by omega) (by omega)]; simp
  rcases h3 with ⟨rfl, rfl⟩ | ⟨⟨kc, rfl⟩, hne⟩
  · rcases h2 with ⟨rfl, rfl⟩ | ⟨km, rfl⟩ <;> rcases h1 with ⟨rfl, rfl⟩ | ⟨kl, rfl⟩ <;> simp [Instr.sliceBounds, b _ _ _ _ hl, b _ _ _ _ hm]
  · rcases h2 with ⟨rfl, rfl⟩ | ⟨km, rfl⟩
    · exact absurd rfl hne
    · rcases h1 with ⟨rfl, rfl⟩ | ⟨kl, rfl⟩ <;> simp [Instr.sliceBounds, b _ _ _ _ hl, b _ _ _ _ hm, b _ _ _ _ hc]

theorem aslice_sound {P : Program} {B : Nat} {ρ : Nat → Pl} {w : World} {h : Nat → Option Blk} {F : Nat} {t : TypeId} {x y : AV} {lo hi mx : Option AV} {upd : Upd} {get : Nat → Option Blk} {v : Value} {vl vh vm : Option Value}
    (hh : HOk B ρ w h) (hg : ∀ k b, get k = some b → h k = some b) (hx : VRepr ρ x v) (hl : OptR ρ lo vl) (hhi : OptR ρ hi vh) (hmx : OptR ρ mx vm) (ha : aslice P t x lo hi mx get = some (y, upd)) :
    ∃ r w', (Instr.sliceAt t v vl vh vm).run P w = .ok r w' ∧ Post B ρ w h F y upd r w' := by
  unfold aslice at ha
  split at ha
  · rename_i k off hp
    obtain ⟨L, hL, rfl⟩ := ptr?_ok hp hx
    split at ha
    case h_2 => simp at ha
    rename_i n e b harr hk
    split at ha
    case h_2 => simp at ha
    rename_i l m hs hl' hm'
    split at ha
    case isFalse => simp at ha
    rename_i hc
    obtain ⟨c1, c2, c3, c4⟩ := hc
    simp at ha
    obtain ⟨rfl, rfl⟩ := ha
    have hvm : vm = none := by cases vm <;> first | rfl | exact hmx.elim
    subst hvm
    have hb := run_bounds (P := P) w false n n l m n vl vh none (natOr_ok hl' hl) (natOr_ok hm' hhi) (.inl ⟨rfl, rfl⟩) c1 c2 (Nat.le_refl _)
    have hblk := hh.blk k b (hg k b hk)
    simp only [BlkOk, hL] at hblk
    obtain ⟨vs, hvs, hown, _⟩ := hblk
    obtain ⟨o1, o2, cells, ty, o3, o4, o5, o6⟩ := hown c4
    have hlen := LCells_length hvs
    refine ⟨_, w, by simp [Instr.sliceAt, run_underlying (arrT_ok harr), Instr.sureAddr, hb, run_sizeT hs]; rfl, Post.pure hh (VRepr_sc.2 ?_)⟩
    by_cases hnl : n = l
    · right
      refine ⟨by omega, by rw [hL]; simp, some ⟨L.block, L.off + off, none⟩, ?_⟩
      rw [if_pos hnl]
      have e1 : m - l = 0 := by omega
      have e2 : n - l = 0 := by omega
      rw [e1, e2]
    · left
      refine ⟨L, n - l, hL, by omega, by omega, ?_⟩
      rw [if_neg hnl]
      simp [Addr_add_at, Nat.add_assoc]
  · split at ha
    case h_2 => simp at ha
    rename_i k off len hp
    split at ha
    case h_2 => simp at ha
    rename_i e hsl
    split at ha
    case h_2 => simp at ha
    rename_i l m c hs hl' hm' hc'
    split at ha
    case isFalse => simp at ha
    rename_i hc
    obtain ⟨c1, c2, c3, c4⟩ := hc
    simp at ha
    obtain ⟨rfl, rfl⟩ := ha
    have hany : (Instr.sliceAt t v vl vh vm).run P w = (Instr.slice t v vl vh vm).run P w := by simp [Instr.sliceAt, run_underlying (slT_ok hsl)]
    have hl2 := natOr_ok hl' hl
    have hm2 := natOr_ok hm' hhi
    have hc2 := natOr_ok hc' hmx
    rcases sl?_ok hp hx with ⟨L, cap, hL, hc1, hcap, hv⟩ | ⟨h0, hun, a, hv⟩
    · simp at hv
      subst hv
      obtain ⟨c0, hc0, h3⟩ : ∃ c0, (m ≤ c0 ∧ c0 ≤ cap) ∧ ((vm = none ∧ c0 = cap) ∨ ((∃ k, vm = some (.int k (c0 : Int))) ∧ vh ≠ none)) := by
        rcases hc2 with ⟨rfl, rfl⟩ | ⟨kc, rfl⟩
        · exact ⟨cap, ⟨by omega, by omega⟩, .inl ⟨rfl, rfl⟩⟩
        · refine ⟨c, ⟨by omega, by omega⟩, .inr ⟨⟨kc, rfl⟩, ?_⟩⟩
          rintro rfl
          cases mx with
          | none => exact hmx.elim
          | some q =>
            have := c4 rfl
            cases hi with
            | none => simp at this
            | some q' => exact hhi.elim
      have hb := run_bounds (P := P) w true len cap l m c0 vl vh vm hl2 hm2 h3 c1 hc0.1 hc0.2
      refine ⟨_, w, by rw [hany]; simp [Instr.slice, run_underlying (slT_ok hsl), hb, run_sizeT hs]; rfl, Post.pure hh (VRepr_sc.2 ?_)⟩
      by_cases hnl : c0 = l
      · right
        refine ⟨by omega, by rw [hL]; simp, some ⟨L.block, L.off + off, none⟩, ?_⟩
        rw [if_pos hnl]
        have e1 : m - l = 0 := by omega
        have e2 : c0 - l = 0 := by omega
        rw [e1, e2]
      · left
        refine ⟨L, c0 - l, hL, by omega, by omega, ?_⟩
        rw [if_neg hnl]
        simp [Addr_add_at, Nat.add_assoc]
    · simp at hv
      subst hv
      obtain rfl : c = 0 := by omega
      obtain rfl : m = 0 := by omega
      obtain rfl : l = 0 := by omega
      have h3 : (vm = none ∧ 0 = 0) ∨ ((∃ k, vm = some (.int k ((0 : Nat) : Int))) ∧ vh ≠ none) := by
        rcases hc2 with ⟨rfl, _⟩ | ⟨kc, rfl⟩
        · exact .inl ⟨rfl, rfl⟩
        · refine .inr ⟨⟨kc, rfl⟩, ?_⟩
          rintro rfl
          cases mx with
          | none => exact hmx.elim
          | some q =>
            have := c4 rfl
            cases hi with
            | none => simp at this
            | some q' => exact hhi.elim
      have hm3 : (vh = none ∧ 0 = 0) ∨ ∃ k, vh = some (.int k ((0 : Nat) : Int)) := by rcases hm2 with ⟨rfl, _⟩ | q; exact .inl ⟨rfl, rfl⟩; exact .inr q
      have hb := run_bounds (P := P) w true 0 0 0 0 0 vl vh vm hl2 hm3 h3 (Nat.le_refl _) (Nat.le_refl _) (Nat.le_refl _)
      refine ⟨.slice a 0 0, w, by rw [hany]; simp [Instr.slice, run_underlying (slT_ok hsl), hb, run_sizeT hs], Post.pure hh (VRepr_sc.2 (.inr ⟨by omega, hun, a, rfl⟩))⟩

/-! ### Lists that lie in memory -/
/-- The kind of a slice's elements. -/
inductive Row where
  | i (l : List Int)
  | b (l : List (BitVec 8))
  | w (l : List (BitVec 32))
  | q (l : List (BitVec 64))
  | d (x : Nat)
def Row.item : Row → IV
  | .i l => .vi l.length l
  | .b l => .v8 l.length l
  | .w l => .v32 l.length l
  | .q l => .v64 l.length l
  | .d x => .vd x
def Row.vals : Row → List Value
  | .i l => l.map intVal
  | .b l => l.map byteVal
  | .w l => l.map w32Val
  | .q l => l.map wordVal
  | .d x => (dg x).map intVal
def Row.len : Row → Nat
  | .i l => l.length
  | .b l => l.length
  | .w l => l.length
  | .q l => l.length
  | .d x => (dg x).length
def cutL {α : Type} (l : List α) (off len n : Nat) : List α := if off = 0 ∧ len = n then l else (l.drop off).take len
theorem cutL_eq {α : Type} {l : List α} {off len n : Nat} (h : l.length = n) : cutL l off len n = (l.drop off).take len := by
  unfold cutL
  split
  · rename_i hc
    obtain ⟨rfl, rfl⟩ := hc
    subst h
    simp
  · rfl

/-- A slice's elements, as a list. -/
def rowOf (get : Nat → Option Blk) (k off len : Nat) : Option Row :=
  match get k with
  | some b =>
    match b.items with
    | [.vi n l] => if off + len ≤ n then some (.i (cutL l off len n)) else none
    | [.v8 n l] => if off + len ≤ n then some (.b (cutL l off len n)) else none
    | [.v32 n l] => if off + len ≤ n then some (.w (cutL l off len n)) else none
    | [.vd x] => if off = 0 ∧ len = (dg x).length then some (.d x) else if off + len ≤ (dg x).length then some (.i (cutL (dg x) off len (dg x).length)) else none
    | [.v64 n l] => if off + len ≤ n then some (.q (cutL l off len n)) else none
    | _ => none
  | none => none

theorem Row.vals_length (r : Row) : r.vals.length = r.len := by cases r <;> simp [Row.vals, Row.len]
theorem Row.item_cells {ρ : Nat → Pl} (r : Row) : LCells ρ [r.item] r.vals := by
  cases r <;> exact LCells_single (by simp [ICells, PCells, Row.item, Row.vals])
theorem Row.one (r : Row) : ∀ v ∈ r.vals, v.oneCell' = true := LCells_one (ρ := fun _ => .un) (Row.item_cells r)

theorem vi_cells {ρ : Nat → Pl} {n : Nat} {l : List Int} {vs : List Value} (h : LCells ρ [.vi n l] vs) : l.length = n ∧ vs = l.map intVal := by
  have := LCells_of_single h
  simp only [ICells, PCells] at this
  split at this <;> simp at this
  exact ⟨‹_›, this.symm⟩
theorem v8_cells {ρ : Nat → Pl} {n : Nat} {l : List (BitVec 8)} {vs : List Value} (h : LCells ρ [.v8 n l] vs) : l.length = n ∧ vs = l.map byteVal := by
  have := LCells_of_single h
  simp only [ICells, PCells] at this
  split at this <;> simp at this
  exact ⟨‹_›, this.symm⟩
theorem v32_cells {ρ : Nat → Pl} {n : Nat} {l : List (BitVec 32)} {vs : List Value} (h : LCells ρ [.v32 n l] vs) : l.length = n ∧ vs = l.map w32Val := by
  have := LCells_of_single h
  simp only [ICells, PCells] at this
  split at this <;> simp at this
  exact ⟨‹_›, this.symm⟩
theorem v64_cells {ρ : Nat → Pl} {n : Nat} {l : List (BitVec 64)} {vs : List Value} (h : LCells ρ [.v64 n l] vs) : l.length = n ∧ vs = l.map wordVal := by
  have := LCells_of_single h
  simp only [ICells, PCells] at this
  split at this <;> simp at this
  exact ⟨‹_›, this.symm⟩

theorem vd_cells {ρ : Nat → Pl} {x : Nat} {vs : List Value} (h : LCells ρ [.vd x] vs) : vs = (dg x).map intVal := by
  have := LCells_of_single h
  simp only [ICells, PCells, Option.some.injEq] at this
  exact this.symm

theorem BlkOk.some {B : Nat} {ρ : Nat → Pl} {w : World} {k : Nat} {b : Blk} (hb : BlkOk B ρ w k b) : ∃ us, LCells ρ b.items us := by
  unfold BlkOk at hb
  split at hb
  · exact hb.elim
  · exact ⟨_, hb⟩
  · obtain ⟨us, hu, _⟩ := hb; exact ⟨us, hu⟩

theorem rowOf_ok {B : Nat} {ρ : Nat → Pl} {w : World} {h : Nat → Option Blk} {get : Nat → Option Blk} {k off len : Nat} {r : Row}
    (hh : HOk B ρ w h) (hg : ∀ k b, get k = some b → h k = some b) (hr : rowOf get k off len = some r) :
    r.len = len ∧ (ρ k ≠ .un) ∧ ∀ L, ρ k = .at L → ∃ vs b, h k = some b ∧ LCells ρ b.items vs ∧ r.vals = (vs.drop off).take len ∧ off + len ≤ vs.length ∧ ∀ i v, r.vals[i]? = some v → w.cell? ⟨L.block, L.off + off + i, none⟩ = some v := by
  unfold rowOf at hr
  split at hr
  case h_2 => simp at hr
  rename_i b hk
  have hb := hh.blk k b (hg k b hk)
  obtain ⟨us, hu⟩ := hb.some
  have fin : ∀ {α : Type} (f : α → Value) (l : List α) (n : Nat), l.length = n → off + len ≤ n → r.len = (cutL l off len n).length → r.vals = (cutL l off len n).map f → (∀ vs, LCells ρ b.items vs → vs = l.map f) →
      r.len = len ∧ (ρ k ≠ .un) ∧ ∀ L, ρ k = .at L → ∃ vs b, h k = some b ∧ LCells ρ b.items vs ∧ r.vals = (vs.drop off).take len ∧ off + len ≤ vs.length ∧ ∀ i v, r.vals[i]? = some v → w.cell? ⟨L.block, L.off + off + i, none⟩ = some v := by
    intro α f l n hn hle h1 h2 h3
    rw [cutL_eq hn] at h1 h2
    refine ⟨by rw [h1]; simp; omega, hb.un, fun L hL => ?_⟩
    obtain ⟨vs, hv, hc⟩ := hb.cells hL
    have hvs := h3 vs hv
    have hvals : r.vals = (vs.drop off).take len := by rw [h2, hvs, list_drop_take_map]
    refine ⟨vs, b, hg k b hk, hv, hvals, by rw [hvs]; simp; omega, ?_⟩
    rw [hvals]
    exact seg_cells hc
  split at hr
  case h_6 => simp at hr
  case h_4 =>
    rename_i x hi
    rw [hi] at fin
    split at hr
    · rename_i hc
      obtain ⟨rfl, rfl⟩ := hc
      simp at hr
      subst hr
      have e : cutL (dg x) 0 (dg x).length (dg x).length = dg x := by simp [cutL]
      exact fin intVal (dg x) _ rfl (by omega) (by rw [e]; rfl) (by rw [e]; rfl) (fun vs hv => vd_cells hv)
    · split at hr
      case isFalse => simp at hr
      rename_i hle
      simp at hr
      subst hr
      exact fin intVal (dg x) _ rfl hle rfl rfl (fun vs hv => vd_cells hv)
  all_goals
    rename_i n l hi
    split at hr
    case isFalse => simp at hr
    rename_i hle
    simp at hr
    subst hr
    rw [hi] at hu fin
  · exact fin intVal l n (vi_cells hu).1 hle rfl rfl (fun vs hv => (vi_cells hv).2)
  · exact fin byteVal l n (v8_cells hu).1 hle rfl rfl (fun vs hv => (v8_cells hv).2)
  · exact fin w32Val l n (v32_cells hu).1 hle rfl rfl (fun vs hv => (v32_cells hv).2)
  · exact fin wordVal l n (v64_cells hu).1 hle rfl rfl (fun vs hv => (v64_cells hv).2)

/-- What a slice's value is good for. -/
theorem sl_read {B : Nat} {ρ : Nat → Pl} {w : World} {h : Nat → Option Blk} {get : Nat → Option Blk} {k off len : Nat} {r : Row} {v : Value}
    (hh : HOk B ρ w h) (hg : ∀ k b, get k = some b → h k = some b) (hr : rowOf get k off len = some r) (hv : ICells ρ (.sl k off len) [v]) :
    (∃ a cap, v = .slice (some a) len cap ∧ len ≤ cap ∧ r.len = len ∧ ∀ j u, r.vals[j]? = some u → w.cell? (a.add j) = some u) ∨ (len = 0 ∧ r.vals = [] ∧ ∃ a, v = .slice a 0 0) := by
  obtain ⟨h1, h2, h3⟩ := rowOf_ok hh hg hr
  rcases hv with ⟨L, cap, hL, hc1, hc2, hv⟩ | ⟨h0, hun, a, hv⟩
  · simp at hv
    subst hv
    obtain ⟨vs, b, _, _, hrv, hle, hc⟩ := h3 L hL
    refine .inl ⟨_, cap, rfl, hc1, h1, fun j u hj => ?_⟩
    rw [Addr_add_at]
    exact hc j u hj
  · simp at hv
    refine .inr ⟨h0, ?_, a, hv⟩
    apply List.eq_nil_of_length_eq_zero
    rw [Row.vals_length, h1, h0]

/-! ### len, max, min -/
def alen (P : Program) (t : TypeId) (x : AV) : Option (AV × Upd) :=
  match x.one? with
  | some (.sl _ _ len) => if (slT P t).isSome then some (sc (.i64 (len : Int)), []) else none
  | some .nil => if (slT P t).isSome then some (sc (.i64 0), []) else none
  | some (.str s) => if strT P t then some (sc (.i64 (s.length : Int)), []) else none
  | _ => match arrT P t with
    | some (n, _) => some (sc (.i64 (n : Int)), [])
    | none => none

theorem alen_sound {P : Program} {B : Nat} {ρ : Nat → Pl} {w : World} {h : Nat → Option Blk} {F : Nat} {t ty : TypeId} {x y : AV} {upd : Upd} {v : Value}
    (hh : HOk B ρ w h) (hx : VRepr ρ x v) (ha : alen P t x = some (y, upd)) :
    ∃ r w', (Builtin.len_ #[t] ty #[v]).run P w = .ok r w' ∧ Post B ρ w h F y upd r w' := by
  unfold alen at ha
  split at ha
  · rename_i k off len h1
    split at ha
    case isFalse => simp at ha
    rename_i hs
    simp at ha
    obtain ⟨rfl, rfl⟩ := ha
    obtain ⟨e, he⟩ := Option.isSome_iff_exists.1 hs
    refine ⟨intVal (len : Int), w, ?_, Post.pure hh (VRepr_sc.2 rfl)⟩
    rcases one?_cells h1 hx with ⟨L, cap, hL, hc1, hc2, hv⟩ | ⟨h0, _, a, hv⟩
    · simp at hv; subst hv; simp [Builtin.len_, run_underlying (slT_ok he), goInt, intVal]
    · simp at hv; subst hv; subst h0; simp [Builtin.len_, run_underlying (slT_ok he), goInt, intVal]
  · rename_i h1
    split at ha
    case isFalse => simp at ha
    rename_i hs
    simp at ha
    obtain ⟨rfl, rfl⟩ := ha
    obtain ⟨e, he⟩ := Option.isSome_iff_exists.1 hs
    have hv := one?_cells h1 hx
    simp [ICells, PCells] at hv
    subst hv
    exact ⟨intVal 0, w, by simp [Builtin.len_, run_underlying (slT_ok he), goInt, intVal], Post.pure hh (VRepr_sc.2 rfl)⟩
  · rename_i s h1
    split at ha
    case isFalse => simp at ha
    rename_i hs
    simp at ha
    obtain ⟨rfl, rfl⟩ := ha
    have hv := one?_cells h1 hx
    simp [ICells, PCells] at hv
    subst hv
    refine ⟨intVal (s.length : Int), w, ?_, Post.pure hh (VRepr_sc.2 rfl)⟩
    have : (strOf s).size = s.length := by simp [strOf, ByteArray.size]
    simp [Builtin.len_, run_underlying (strT_ok hs), goInt, intVal, this]
  · split at ha
    case h_2 => simp at ha
    rename_i n e harr
    simp at ha
    obtain ⟨rfl, rfl⟩ := ha
    refine ⟨intVal (n : Int), w, ?_, Post.pure hh (VRepr_sc.2 rfl)⟩
    simp [Builtin.len_, run_underlying (arrT_ok harr), goInt, intVal]

def amax (x y : AV) : Option (AV × Upd) :=
  match x.one?, y.one? with
  | some (.i64 a), some (.i64 b) => some (sc (.i64 (if b > a then b else a)), [])
  | _, _ => none
theorem amax_sound {P : Program} {B : Nat} {ρ : Nat → Pl} {w : World} {h : Nat → Option Blk} {F : Nat} {ts : Array TypeId} {ty : TypeId} {x y z : AV} {upd : Upd} {v u : Value}
    (hh : HOk B ρ w h) (hx : VRepr ρ x v) (hy : VRepr ρ y u) (ha : amax x y = some (z, upd)) :
    ∃ r w', (Builtin.max_ ts ty #[v, u]).run P w = .ok r w' ∧ Post B ρ w h F z upd r w' := by
  unfold amax at ha
  split at ha
  case h_2 => simp at ha
  rename_i a b h1 h2
  simp at ha
  obtain ⟨rfl, rfl⟩ := ha
  have hv := one?_cells h1 hx
  have hu := one?_cells h2 hy
  simp [ICells, PCells] at hv hu
  subst hv hu
  exact ⟨intVal (if b > a then b else a), w, by simp [Builtin.max_, Builtin.max2, intVal], Post.pure hh (VRepr_sc.2 rfl)⟩
def amin (x y : AV) : Option (AV × Upd) :=
  match x.one?, y.one? with
  | some (.i64 a), some (.i64 b) => some (sc (.i64 (if b < a then b else a)), [])
  | _, _ => none
theorem amin_sound {P : Program} {B : Nat} {ρ : Nat → Pl} {w : World} {h : Nat → Option Blk} {F : Nat} {ts : Array TypeId} {ty : TypeId} {x y z : AV} {upd : Upd} {v u : Value}
    (hh : HOk B ρ w h) (hx : VRepr ρ x v) (hy : VRepr ρ y u) (ha : amin x y = some (z, upd)) :
    ∃ r w', (Builtin.min_ ts ty #[v, u]).run P w = .ok r w' ∧ Post B ρ w h F z upd r w' := by
  unfold amin at ha
  split at ha
  case h_2 => simp at ha
  rename_i a b h1 h2
  simp at ha
  obtain ⟨rfl, rfl⟩ := ha
  have hv := one?_cells h1 hx
  have hu := one?_cells h2 hy
  simp [ICells, PCells] at hv hu
  subst hv hu
  exact ⟨intVal (if b < a then b else a), w, by simp [Builtin.min_, Builtin.min2, intVal], Post.pure hh (VRepr_sc.2 rfl)⟩

/-! ### Conversions -/
def aconvert (P : Program) (src dst : TypeId) (x : AV) (get : Nat → Option Blk) : Option (AV × Upd) :=
  match intT P dst with
  | some k =>
    match x.one? with
    | some i => if (P.underlying src).isSome then (aconv k i).map fun y => (sc y, []) else none
    | none => none
  | none =>
    if strT P dst then
      match slT P src with
      | some e =>
        match intT P e with
        | some .u8 =>
          match x.one? with
          | some (.sl k off len) => match rowOf get k off len with
            | some (.b l) => some (sc (.str l), [])
            | _ => none
          | some .nil => some (sc (.str []), [])
          | _ => none
        | _ => none
      | none => none
    else none

theorem push_bytes (l : List (BitVec 8)) : ∀ (r : ByteArray), ((l.map fun x => (x.toNat : Int)).foldl (fun r n => r.push (UInt8.ofNat n.toNat)) r) = ⟨r.data ++ (l.map UInt8.ofBitVec).toArray⟩ := by
  induction l with
  | nil => intro r; simp
  | cons x l ih =>
    intro r
    simp only [List.map_cons, List.foldl_cons]
    rw [ih]
    have : UInt8.ofNat ((x.toNat : Int).toNat) = UInt8.ofBitVec x := by
      apply UInt8.toBitVec_inj.1
      simp
    rw [this]
    simp [ByteArray.push]

theorem aconvert_sound {P : Program} {B : Nat} {ρ : Nat → Pl} {w : World} {h : Nat → Option Blk} {F : Nat} {src dst : TypeId} {x y : AV} {upd : Upd} {get : Nat → Option Blk} {v : Value}
    (hh : HOk B ρ w h) (hg : ∀ k b, get k = some b → h k = some b) (hx : VRepr ρ x v) (ha : aconvert P src dst x get = some (y, upd)) :
    ∃ r w', (convert src dst v).run P w = .ok r w' ∧ Post B ρ w h F y upd r w' := by
  unfold aconvert at ha
  split at ha
  · rename_i k hk
    split at ha
    case h_2 => simp at ha
    rename_i i h1
    split at ha
    case isFalse => simp at ha
    rename_i hs
    cases hc : aconv k i with
    | none => simp [hc] at ha
    | some z =>
      simp [hc] at ha
      obtain ⟨rfl, rfl⟩ := ha
      have hv := one?_cells h1 hx
      have hp : PCells i = some [v] := by cases i <;> first | exact hv | (simp [aconv] at hc)
      obtain ⟨q, n, r, rfl, hr, hz⟩ := aconv_sound (P := P) w k i z v hc hp
      obtain ⟨d, hd⟩ := Option.isSome_iff_exists.1 hs
      refine ⟨r, w, ?_, Post.pure hh (VRepr_sc.2 (ICells_of_P hz))⟩
      simp [convert, run_underlying hd, run_underlying (intT_ok hk), hr]
  · split at ha
    case isFalse => simp at ha
    rename_i hst
    split at ha
    case h_2 => simp at ha
    rename_i e he
    split at ha
    case h_2 => simp at ha
    rename_i hu8
    split at ha
    · rename_i k off len h1
      split at ha
      case h_2 => simp at ha
      rename_i l hr
      simp at ha
      obtain ⟨rfl, rfl⟩ := ha
      refine ⟨.string (strOf l), w, ?_, Post.pure hh (VRepr_sc.2 rfl)⟩
      rcases sl_read hh hg hr (one?_cells h1 hx) with ⟨a, cap, rfl, _, hlen, hc⟩ | ⟨h0, hnil, a, rfl⟩
      · rw [run_convert_bytes_string w src dst e _ len cap (slT_ok he) (intT_ok hu8) (strT_ok hst)]
        have hload := run_loadCells_list (P := P) w a (Row.b l).vals hc
        rw [Row.vals_length, hlen] at hload
        have hv : (Row.b l).vals = (l.map fun x => (x.toNat : Int)).map (Value.int .u8) := by simp [Row.vals, byteVal]
        rw [hv] at hload
        rw [run_bytesToString w a len cap _ hload, push_bytes]
        simp [strOf]
      · have : l = [] := by simpa [Row.vals] using hnil
        subst this
        rw [run_convert_bytes_string w src dst e _ 0 0 (slT_ok he) (intT_ok hu8) (strT_ok hst)]
        cases a with
        | none => simp [Conv.bytesToString, strOf]; rfl
        | some a =>
          have hload := run_loadCells_list (P := P) w a [] (fun j u hj => by simp at hj)
          rw [run_bytesToString w a 0 0 [] (by simpa using hload)]
          simp [strOf]; rfl
    · rename_i h1
      simp at ha
      obtain ⟨rfl, rfl⟩ := ha
      have hv := one?_cells h1 hx
      simp [ICells, PCells] at hv
      subst hv
      refine ⟨.string (strOf []), w, ?_, Post.pure hh (VRepr_sc.2 rfl)⟩
      rw [run_convert_bytes_string w src dst e _ 0 0 (slT_ok he) (intT_ok hu8) (strT_ok hst)]
      simp [Conv.bytesToString, strOf]; rfl
    · simp at ha

/-! ### Package-level variables -/
def AV.gp? (x : AV) : Option (Nat × Nat) :=
  match x.one? with
  | some (.gp g off) => some (g, off)
  | _ => none
theorem gp?_ok {ρ : Nat → Pl} {x : AV} {g off : Nat} {v : Value} (h : x.gp? = some (g, off)) (hv : VRepr ρ x v) : v = .pointer (some ⟨g, off, none⟩) := by
  unfold AV.gp? at h
  split at h
  case h_2 => simp at h
  rename_i g' off' h1
  simp at h
  obtain ⟨rfl, rfl⟩ := h
  have := one?_cells h1 hv
  simp [ICells, PCells] at this
  exact this.symm
def gload (P : Program) (t : TypeId) (g off : Nat) : Option (AV × Upd) :=
  match globAt globT g, aggT P t, szT P t with
  | some l, some true, some n => (getRange l off n).map fun m => (.val true m, [])
  | some l, some false, some _ => (getCell l off).map fun c => (sc c, [])
  | _, _, _ => none
theorem gload_sound {P : Program} {B : Nat} {ρ : Nat → Pl} {w : World} {h : Nat → Option Blk} {F : Nat} {t : TypeId} {g off : Nat} {y : AV} {upd : Upd}
    (hG : GlobOk w) (hh : HOk B ρ w h) (ha : gload P t g off = some (y, upd)) :
    ∃ r w', (Instr.loadAt t (.pointer (some ⟨g, off, none⟩))).run P w = .ok r w' ∧ Post B ρ w h F y upd r w' := by
  unfold gload at ha
  split at ha
  case h_3 => simp at ha
  · rename_i l n hg hag hsz
    obtain ⟨vs, hv, hc⟩ := hG g l hg
    cases hr : getRange l off n with
    | none => simp [hr] at ha
    | some m =>
      simp [hr] at ha
      obtain ⟨rfl, rfl⟩ := ha
      obtain ⟨h1, h2⟩ := getRange_ok (hv ρ) hr
      have hlen : ((vs.drop off).take n).length = n := by simp; omega
      have hc' : ∀ i v, vs[i]? = some v → w.cell? ⟨g, 0 + i, none⟩ = some v := fun i v hi => by rw [Nat.zero_add]; exact hc i v hi
      have hload := run_loadCells_seg (P := P) w g (0 + off) _ (seg_cells (n := n) hc')
      rw [hlen, Nat.zero_add] at hload
      refine ⟨.agg ((vs.drop off).take n).toArray, w, ?_, Post.pure hh ⟨_, h2, by simp⟩⟩
      simp only [Instr.loadAt, Instr.sureAddr, Sem.run_bind, Sem.run_pure, Result.andThen_ok, loadVar, run_aggT hag, run_sizeT hsz, if_true, hload]
  · rename_i l n hg hag hsz
    obtain ⟨vs, hv, hc⟩ := hG g l hg
    cases hr : getCell l off with
    | none => simp [hr] at ha
    | some c =>
      simp [hr] at ha
      obtain ⟨rfl, rfl⟩ := ha
      obtain ⟨u, h1, h2⟩ := getCell_ok (hv ρ) hr
      have hcell := hc off u h1
      refine ⟨u, w, ?_, Post.pure hh (VRepr_sc.2 h2)⟩
      simp only [Instr.loadAt, Instr.sureAddr, Sem.run_bind, Sem.run_pure, Result.andThen_ok, loadVar, run_aggT hag, Bool.false_eq_true, if_false, run_load, hcell]
/-- A load, a field's or an element's place: of a variable, or of a block. -/
def aloadG (P : Program) (t : TypeId) (x : AV) (get : Nat → Option Blk) : Option (AV × Upd) :=
  match x.gp? with
  | some q => gload P t q.1 q.2
  | none => aload P t x get
theorem aloadG_sound {P : Program} {B : Nat} {ρ : Nat → Pl} {w : World} {h : Nat → Option Blk} {F : Nat} {t : TypeId} {x y : AV} {upd : Upd} {get : Nat → Option Blk} {v : Value}
    (hG : GlobOk w) (hh : HOk B ρ w h) (hg : ∀ k b, get k = some b → h k = some b) (hx : VRepr ρ x v) (ha : aloadG P t x get = some (y, upd)) :
    ∃ r w', (Instr.loadAt t v).run P w = .ok r w' ∧ Post B ρ w h F y upd r w' := by
  unfold aloadG at ha
  split at ha
  · rename_i q hq
    rw [gp?_ok hq hx]
    exact gload_sound hG hh ha
  · exact aload_sound hh hg hx ha
def gindex (P : Program) (t : TypeId) (g off j : Nat) : Option (AV × Upd) :=
  match arrT P t with
  | some (n, e) => match szT P e with
    | some s => if j < n then some (sc (.gp g (off + j * s)), []) else none
    | none => none
  | none => none
def aindexAddrG (P : Program) (t : TypeId) (x i : AV) : Option (AV × Upd) :=
  match x.gp? with
  | some q => match i.nat? with
    | some j => gindex P t q.1 q.2 j
    | none => none
  | none => aindexAddr P t x i
def afieldAddrG (P : Program) (t : TypeId) (x : AV) (f : Nat) : Option (AV × Upd) :=
  match x.gp? with
  | some q => match fieldT P t f with
    | some o => some (sc (.gp q.1 (q.2 + o.1)), [])
    | none => none
  | none => afieldAddr P t x f
theorem gindex_sound {P : Program} {B : Nat} {ρ : Nat → Pl} {w : World} {h : Nat → Option Blk} {F : Nat} {t : TypeId} {g off j : Nat} {y : AV} {upd : Upd} {kd : IntKind}
    (hh : HOk B ρ w h) (ha : gindex P t g off j = some (y, upd)) :
    ∃ r w', (Instr.indexAt t (.pointer (some ⟨g, off, none⟩)) (.int kd (j : Int))).run P w = .ok r w' ∧ Post B ρ w h F y upd r w' := by
  unfold gindex at ha
  split at ha
  case h_2 => simp at ha
  rename_i n e harr
  split at ha
  case h_2 => simp at ha
  rename_i s hs
  split at ha
  case isFalse => simp at ha
  rename_i hlt
  simp at ha
  obtain ⟨rfl, rfl⟩ := ha
  refine ⟨.pointer (some ⟨g, off + j * s, none⟩), w, ?_, Post.pure hh (VRepr_sc.2 rfl)⟩
  have h0 : (0 : Int) ≤ j ∧ (j : Int) < n := by omega
  simp [Instr.indexAt, asIntOf, run_underlying (arrT_ok harr), Instr.sureAddr, hlt, run_sizeT hs, Addr_add_at]
theorem aindexAddrG_sound {P : Program} {B : Nat} {ρ : Nat → Pl} {w : World} {h : Nat → Option Blk} {F : Nat} {t : TypeId} {x i y : AV} {upd : Upd} {v u : Value}
    (hh : HOk B ρ w h) (hx : VRepr ρ x v) (hi : VRepr ρ i u) (ha : aindexAddrG P t x i = some (y, upd)) :
    ∃ r w', (Instr.indexAt t v u).run P w = .ok r w' ∧ Post B ρ w h F y upd r w' := by
  unfold aindexAddrG at ha
  split at ha
  · rename_i q hq
    split at ha
    case h_2 => simp at ha
    rename_i j hj
    obtain ⟨kd, rfl⟩ := nat?_ok hj hi
    rw [gp?_ok hq hx]
    exact gindex_sound hh ha
  · exact aindexAddr_sound hh hx hi ha
theorem afieldAddrG_sound {P : Program} {B : Nat} {ρ : Nat → Pl} {w : World} {h : Nat → Option Blk} {F : Nat} {t : TypeId} {x y : AV} {f : Nat} {upd : Upd} {v : Value}
    (hh : HOk B ρ w h) (hx : VRepr ρ x v) (ha : afieldAddrG P t x f = some (y, upd)) :
    ∃ r w', (Instr.fieldAt t v f).run P w = .ok r w' ∧ Post B ρ w h F y upd r w' := by
  unfold afieldAddrG at ha
  split at ha
  · rename_i q hq
    split at ha
    case h_2 => simp at ha
    rename_i o hf
    simp at ha
    obtain ⟨rfl, rfl⟩ := ha
    rw [gp?_ok hq hx]
    obtain ⟨fs, fx, i, hu, hfx, hi, hz, hoff, _⟩ := fieldT_ok (o := o.1) (ft := o.2) hf
    refine ⟨.pointer (some ⟨q.1, q.2 + fx.offset, none⟩), w, ?_, Post.pure hh (VRepr_sc.2 (by rw [← hoff]; rfl))⟩
    simp [Instr.fieldAt, run_underlying hu, hfx, Instr.sureAddr, fieldPlace, sizeOf, typeInfo, hi, hz, Addr_add_at]
  · exact afieldAddr_sound hh hx ha
end Go.Ev
