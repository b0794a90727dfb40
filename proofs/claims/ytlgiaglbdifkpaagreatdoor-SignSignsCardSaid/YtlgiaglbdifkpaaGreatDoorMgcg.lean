/- Texts put together: EvG EvH. Own work. -/
import Derived.Test.YtlgiaglbdifkpaaGreatDoorMgcf
/- Contracts of functions, calls, and one operation of whatever kind. Own work; no statement of the seat is proved here. -/
namespace Go.Ev
open Go.RowKit

/-! ### Data that lies in a world -/
/-- A slice of so many elements, whose cells these are. -/
def RdSl (w : World) (n : Nat) (vs : List Value) (v : Value) : Prop :=
  (∃ blk off cap, v = .slice (some ⟨blk, off, none⟩) n cap ∧ n ≤ cap ∧ blk < w.heap.size ∧ ∀ i u, vs[i]? = some u → w.cell? ⟨blk, off + i, none⟩ = some u) ∨ (n = 0 ∧ vs = [] ∧ ∃ a, v = .slice a 0 0)

def DCells (w : World) : IV → List Value → Prop
  | .dI l, vs => ∃ v, vs = [v] ∧ RdSl w l.length (l.map intVal) v
  | .dN x, vs => ∃ v, vs = [v] ∧ RdSl w (dg x).length ((dg x).map intVal) v
  | .d8 l, vs => ∃ v, vs = [v] ∧ RdSl w l.length (l.map byteVal) v
  | .r8 l, vs => ∃ v, vs = [v] ∧ RdSl w l.length (l.map byteVal) v
  | .d32 l, vs => ∃ v, vs = [v] ∧ RdSl w l.length (l.map w32Val) v
  | .d64 l, vs => ∃ v, vs = [v] ∧ RdSl w l.length (l.map wordVal) v
  | .dn l, vs => ∃ v, vs = [v] ∧ RdSl w l.length (l.flatMap n4Vals) v
  | .dsI ls, vs => ∃ v inner, vs = [v] ∧ RdSl w ls.length inner v ∧ F2 (fun l u => RdSl w l.length (l.map intVal) u) ls inner
  | .ds8 ls, vs => ∃ v inner, vs = [v] ∧ RdSl w ls.length inner v ∧ F2 (fun l u => RdSl w l.length (l.map byteVal) u) ls inner
  | .sl _ _ _, _ => False
  | .ptr _ _, _ => False
  | i, vs => PCells i = some vs

def DLs (w : World) : List IV → List Value → Prop
  | [], vs => vs = []
  | i :: r, vs => ∃ a b, vs = a ++ b ∧ DCells w i a ∧ DLs w r b

def DV (w : World) : AV → Value → Prop
  | .val g l, v => ∃ vs, DLs w l vs ∧ (if g then v = .agg vs.toArray else vs = [v])
  | .fn f a c, v => a = [] ∧ c = [] ∧ v = .func (.func f) #[] #[]
  | _, _ => False

/-! ### Results: data laid into blocks of one's own -/
def mkU (bs : List (Nat × Blk)) : Upd := bs.map fun p => (p.1, some p.2)
def lookB (bs : List (Nat × Blk)) : Nat → Option Blk := applyU (fun _ => none) (mkU bs)

def ofIs (F : Nat) : List IV → List IV × List (Nat × Blk) × Nat
  | [] => ([], [], F)
  | .d8 l :: r => let q := ofIs (F + 1) r; (.sl F 0 l.length :: q.1, (F, ⟨true, [.v8 l.length l]⟩) :: q.2.1, q.2.2)
  | .r8 l :: r => let q := ofIs (F + 1) r; (.sl F 0 l.length :: q.1, (F, ⟨false, [.v8 l.length l]⟩) :: q.2.1, q.2.2)
  | .dI l :: r => let q := ofIs (F + 1) r; (.sl F 0 l.length :: q.1, (F, ⟨true, [.vi l.length l]⟩) :: q.2.1, q.2.2)
  | .dN x :: r => let q := ofIs (F + 1) r; (.sl F 0 (dg x).length :: q.1, (F, ⟨true, [.vd x]⟩) :: q.2.1, q.2.2)
  | .d32 l :: r => let q := ofIs (F + 1) r; (.sl F 0 l.length :: q.1, (F, ⟨true, [.v32 l.length l]⟩) :: q.2.1, q.2.2)
  | .d64 l :: r => let q := ofIs (F + 1) r; (.sl F 0 l.length :: q.1, (F, ⟨true, [.v64 l.length l]⟩) :: q.2.1, q.2.2)
  | i :: r => let q := ofIs F r; (i :: q.1, q.2.1, q.2.2)

def ofTs (F : Nat) : List (Bool × List IV) → List (Bool × List IV) × List (Nat × Blk) × Nat
  | [] => ([], [], F)
  | p :: r => let a := ofIs F p.2; let q := ofTs a.2.2 r; ((p.1, a.1) :: q.1, a.2.1 ++ q.2.1, q.2.2)

def ofA (F : Nat) : AV → AV × List (Nat × Blk) × Nat
  | .val g l => let a := ofIs F l; (.val g a.1, a.2.1, a.2.2)
  | .tup l => let a := ofTs F l; (.tup a.1, a.2.1, a.2.2)
  | x => (x, [], F)

/-- A result, wherever its blocks are numbered from. -/
def ResOk (B : Nat) (w : World) (r : AV) (v : Value) : Prop :=
  ∀ F, ∃ ρ, (∀ k, ρ k ≠ .un → F ≤ k ∧ k < (ofA F r).2.2) ∧ (∀ k L, ρ k = .at L → B ≤ L.block) ∧ VRepr ρ (ofA F r).1 v ∧ HOk B ρ w (lookB (ofA F r).2.1)

def Fn (P : Program) (f : FuncId) (spec : List AV → Option AV) : Prop :=
  ∀ ds r, spec ds = some r → ∀ (w : World) (vals : List Value), F2 (DV w) ds vals →
    CallsG P f vals.toArray w fun e w' => ∃ v, e = .returned v ∧ Below w.heap.size w w' ∧ ResOk w.heap.size w' r v

/-- A function that answers the beginning of its one argument. -/
def PreFn (P : Program) (f : FuncId) (n : IV → Option Nat) : Prop :=
  ∀ d m, n d = some m → ∀ (w : World) (a : Option Addr) (len cap : Nat), DCells w d [.slice a len cap] →
    CallsG P f #[.slice a len cap] w fun e w' => m ≤ len ∧ Below w.heap.size w w' ∧ ((∃ cap', e = .returned (.slice a m cap') ∧ m ≤ cap' ∧ cap' ≤ cap) ∨ (m = 0 ∧ ∃ a', e = .returned (.slice a' 0 0)))

inductive Ct where
  | fn (spec : List AV → Option AV)
  | pre (n : IV → Option Nat)

def CtOk (P : Program) (f : FuncId) : Ct → Prop
  | .fn spec => Fn P f spec
  | .pre n => PreFn P f n

def callable (P : Program) (f : FuncId) : Bool :=
  match P.funcs[f]? with
  | some fn => !(fn.name == "runtime.NumGoroutine") && fn.body.isSome
  | none => false

theorem run_callFunc {P : Program} {f : FuncId} (h : callable P f = true) (args : Array Value) (w : World) : (callFunc f args).run P w = .ok (.enter f args) w := by
  unfold callable at h
  cases hf : P.funcs[f]? with
  | none => simp [hf] at h
  | some fn =>
    simp only [hf, Bool.and_eq_true, Bool.not_eq_true', Option.isSome_iff_ne_none] at h
    have h1 : ¬ fn.name = "runtime.NumGoroutine" := by simpa using h.1
    simp [callFunc, hf, h1, h.2]

def GSound (P : Program) (Γ : FuncId → Option Ct) : Prop := ∀ f c, Γ f = some c → CtOk P f c ∧ callable P f = true

/-! ### From the evaluator's memory to data -/
def rowsOf (get : Nat → Option Blk) : List IV → Option (List Row)
  | [] => some []
  | .sl k off len :: r => match rowOf get k off len, rowsOf get r with
    | some x, some l => some (x :: l)
    | _, _ => none
  | _ => none
def allI : List Row → Option (List (List Int))
  | [] => some []
  | .i l :: r => (allI r).map (l :: ·)
  | _ => none
def allB : List Row → Option (List (List (BitVec 8)))
  | [] => some []
  | .b l :: r => (allB r).map (l :: ·)
  | _ => none

def toI (get : Nat → Option Blk) : IV → Option IV
  | .sl k off len =>
    match rowOf get k off len with
    | some (.i l) => some (.dI l)
    | some (.d x) => some (.dN x)
    | some (.b l) => some (.d8 l)
    | some (.w l) => some (.d32 l)
    | some (.q l) => some (.d64 l)
    | none =>
      match get k with
      | some b =>
        match b.items with
        | [.vn n l] => if off = 0 ∧ len = n then some (.dn l) else none
        | items =>
          if off = 0 ∧ len = items.length then
            match rowsOf get items with
            | some rows =>
              match allB rows with
              | some ls => some (.ds8 ls)
              | none => (allI rows).map .dsI
            | none => none
          else none
      | none => none
  | .ptr _ _ => none
  | .dI _ | .dN _ | .d8 _ | .d32 _ | .d64 _ | .dn _ | .r8 _ | .dsI _ | .ds8 _ => none
  | i => some i

def toL (get : Nat → Option Blk) : List IV → Option (List IV)
  | [] => some []
  | i :: r => match toI get i, toL get r with
    | some x, some l => some (x :: l)
    | _, _ => none

def toA (get : Nat → Option Blk) : AV → Option AV
  | .val g l => (toL get l).map (.val g ·)
  | .fn f [] [] => some (.fn f [] [])
  | _ => none

def toAs (get : Nat → Option Blk) : List AV → Option (List AV)
  | [] => some []
  | x :: r => match toA get x, toAs get r with
    | some y, some l => some (y :: l)
    | _, _ => none

theorem rd_of_sl {B : Nat} {ρ : Nat → Pl} {w : World} {h : Nat → Option Blk} (hh : HOk B ρ w h) {k off len n : Nat} {vs : List Value} {v : Value} (hv : ICells ρ (.sl k off len) [v]) (hn : n = len)
    (hc : ∀ L, ρ k = .at L → ∃ b, h k = some b ∧ ∀ i u, vs[i]? = some u → w.cell? ⟨L.block, L.off + off + i, none⟩ = some u) (h0 : len = 0 → vs = []) : RdSl w n vs v := by
  subst hn
  rcases hv with ⟨L, cap, hL, hc1, hc2, e⟩ | ⟨e0, _, a, e⟩
  · simp at e
    subst e
    obtain ⟨b, hb, hcell⟩ := hc L hL
    exact .inl ⟨L.block, L.off + off, cap, rfl, hc1, (hh.blk k b hb).size hL, hcell⟩
  · simp at e
    subst e
    subst e0
    exact .inr ⟨rfl, h0 rfl, a, rfl⟩

section
variable {B : Nat} {ρ : Nat → Pl} {w : World} {h : Nat → Option Blk} {get : Nat → Option Blk}

theorem rd_row (hh : HOk B ρ w h) (hg : ∀ k b, get k = some b → h k = some b) {k off len : Nat} {r : Row} {v : Value} (hr : rowOf get k off len = some r) (hv : ICells ρ (.sl k off len) [v]) : RdSl w r.len r.vals v := by
  obtain ⟨h1, h2, h3⟩ := rowOf_ok hh hg hr
  refine rd_of_sl hh hv h1 (fun L hL => ?_) (fun e => List.eq_nil_of_length_eq_zero (by rw [Row.vals_length, h1, e]))
  obtain ⟨vs, b, hb, _, _, _, hc⟩ := h3 L hL
  exact ⟨b, hb, hc⟩

theorem rowsOf_ok (hh : HOk B ρ w h) (hg : ∀ k b, get k = some b → h k = some b) : ∀ {items : List IV} {rows : List Row} {vs : List Value}, rowsOf get items = some rows → LCells ρ items vs → F2 (fun r u => RdSl w (Row.len r) r.vals u) rows vs
  | [], rows, vs, hr, hL => by simp [rowsOf] at hr; subst hr; rw [hL]; trivial
  | .sl k off len :: r, rows, vs, hr, ⟨a, b, hab, ha, hb⟩ => by
    simp only [rowsOf] at hr
    split at hr
    case h_2 => simp at hr
    rename_i x l hx hl
    simp at hr
    subst hr
    obtain ⟨v, rfl⟩ := list_len1 (ICells_length ha)
    rw [hab]
    exact ⟨rd_row hh hg hx ha, rowsOf_ok hh hg hl hb⟩

theorem toI_ok (hh : HOk B ρ w h) (hg : ∀ k b, get k = some b → h k = some b) {i j : IV} {vs : List Value} (ht : toI get i = some j) (hv : ICells ρ i vs) : DCells w j vs := by
  have plain : PCells i = some vs → some i = some j → DCells w j vs := by
    intro hp he
    simp at he
    subst he
    cases i <;> first | exact hp | (simp [PCells] at hp)
  cases i
  case sl k off len =>
    obtain ⟨v, rfl⟩ := list_len1 (ICells_length hv)
    simp only [toI] at ht
    split at ht
    · rename_i l hr; simp at ht; subst ht; exact ⟨v, rfl, rd_row hh hg hr hv⟩
    · rename_i l hr; simp at ht; subst ht; exact ⟨v, rfl, rd_row hh hg hr hv⟩
    · rename_i l hr; simp at ht; subst ht; exact ⟨v, rfl, rd_row hh hg hr hv⟩
    · rename_i l hr; simp at ht; subst ht; exact ⟨v, rfl, rd_row hh hg hr hv⟩
    · rename_i l hr; simp at ht; subst ht; exact ⟨v, rfl, rd_row hh hg hr hv⟩
    · split at ht
      case h_2 => simp at ht
      rename_i b hk
      have hb := hh.blk k b (hg k b hk)
      split at ht
      · rename_i n l hit
        split at ht <;> simp at ht
        rename_i hc
        obtain ⟨rfl, rfl⟩ := hc
        subst ht
        have hn : ∀ us, LCells ρ b.items us → l.length = len ∧ us = l.flatMap n4Vals := by
          intro us hus
          rw [hit] at hus
          have := LCells_of_single hus
          simp only [ICells, PCells] at this
          split at this <;> simp at this
          exact ⟨‹_›, this.symm⟩
        obtain ⟨us, hus⟩ := hb.some
        refine ⟨v, rfl, rd_of_sl hh hv (hn us hus).1 (fun L hL => ⟨b, hg k b hk, ?_⟩) (fun e => ?_)⟩
        · obtain ⟨us2, hus2, hc⟩ := hb.cells hL
          rw [← (hn us2 hus2).2]
          simpa using hc
        · have := (hn us hus).1
          have : l = [] := List.eq_nil_of_length_eq_zero (by omega)
          rw [this]; rfl
      · rename_i items _
        split at ht
        case isFalse => simp at ht
        rename_i hc
        obtain ⟨rfl, rfl⟩ := hc
        split at ht
        case h_2 => simp at ht
        rename_i rows hrows
        -- the inner values
        have rest : ∀ (nn : Nat), nn = rows.length → ∃ inner, F2 (fun r u => RdSl w (Row.len r) r.vals u) rows inner ∧ RdSl w nn inner v := by
          intro nn hnn
          obtain ⟨us, hus⟩ := hb.some
          have hall : ∀ {us : List Value}, LCells ρ b.items us → F2 (fun r u => RdSl w (Row.len r) r.vals u) rows us := fun hus => rowsOf_ok hh hg hrows hus
          have hlen : rows.length = b.items.length := by
            have h1 := (hall hus).length
            have : ∀ (its : List IV) (rs : List Row), rowsOf get its = some rs → rs.length = its.length := by
              intro its
              induction its with
              | nil => intro rs q; simp [rowsOf] at q; subst q; rfl
              | cons x its ih =>
                intro rs q
                cases x <;> simp [rowsOf] at q
                split at q
                case h_2 => simp at q
                simp at q
                subst q
                simp [ih _ (by assumption)]
            exact this _ _ hrows
          rcases hv with ⟨L, cap, hL, hc1, hc2, e⟩ | ⟨e0, hnu, a, e⟩
          · simp at e
            subst e
            obtain ⟨us2, hus2, hcell⟩ := hb.cells hL
            exact ⟨us2, hall hus2, .inl ⟨L.block, L.off + 0, cap, by rw [hnn, hlen]; rfl, by omega, hb.size hL, by simpa using hcell⟩⟩
          · simp at e
            subst e
            have h0 : rows = [] := List.eq_nil_of_length_eq_zero (by omega)
            subst h0
            exact ⟨[], trivial, .inr ⟨by simpa using hnn, rfl, a, rfl⟩⟩
        split at ht
        · rename_i ls hls
          simp at ht
          subst ht
          have hb8 : ∀ (rs : List Row) (ls : List (List (BitVec 8))), allB rs = some ls → rs.length = ls.length ∧ ∀ inner, F2 (fun r u => RdSl w (Row.len r) r.vals u) rs inner → F2 (fun l u => RdSl w (List.length l) (l.map byteVal) u) ls inner := by
            intro rs
            induction rs with
            | nil => intro ls q; simp [allB] at q; subst q; exact ⟨rfl, fun inner hi => by match inner, hi with | [], _ => trivial⟩
            | cons x rs ih =>
              intro ls q
              cases x <;> simp [allB] at q
              obtain ⟨ls', q1, q2⟩ := q
              subst q2
              obtain ⟨e1, e2⟩ := ih ls' q1
              refine ⟨by simp [e1], fun inner hi => ?_⟩
              match inner, hi with
              | u :: us, ⟨p1, p2⟩ => exact ⟨p1, e2 us p2⟩
          obtain ⟨e1, e2⟩ := hb8 rows ls hls
          obtain ⟨inner, q1, q2⟩ := rest ls.length e1.symm
          exact ⟨v, inner, rfl, q2, e2 inner q1⟩
        · cases hls : allI rows with
          | none => simp [hls] at ht
          | some ls =>
            simp [hls] at ht
            subst ht
            have hbi : ∀ (rs : List Row) (ls : List (List Int)), allI rs = some ls → rs.length = ls.length ∧ ∀ inner, F2 (fun r u => RdSl w (Row.len r) r.vals u) rs inner → F2 (fun l u => RdSl w (List.length l) (l.map intVal) u) ls inner := by
              intro rs
              induction rs with
              | nil => intro ls q; simp [allI] at q; subst q; exact ⟨rfl, fun inner hi => by match inner, hi with | [], _ => trivial⟩
              | cons x rs ih =>
                intro ls q
                cases x <;> simp [allI] at q
                obtain ⟨ls', q1, q2⟩ := q
                subst q2
                obtain ⟨e1, e2⟩ := ih ls' q1
                refine ⟨by simp [e1], fun inner hi => ?_⟩
                match inner, hi with
                | u :: us, ⟨p1, p2⟩ => exact ⟨p1, e2 us p2⟩
            obtain ⟨e1, e2⟩ := hbi rows ls hls
            obtain ⟨inner, q1, q2⟩ := rest ls.length e1.symm
            exact ⟨v, inner, rfl, q2, e2 inner q1⟩
  case ptr => simp [toI] at ht
  all_goals first | exact plain hv ht | (simp [toI] at ht)

theorem toL_ok (hh : HOk B ρ w h) (hg : ∀ k b, get k = some b → h k = some b) : ∀ {l m : List IV} {vs : List Value}, toL get l = some m → LCells ρ l vs → DLs w m vs
  | [], m, vs, ht, hL => by simp [toL] at ht; subst ht; exact hL
  | i :: r, m, vs, ht, ⟨a, b, hab, ha, hb⟩ => by
    simp only [toL] at ht
    split at ht
    case h_2 => simp at ht
    rename_i x l hx hl
    simp at ht
    subst ht
    exact ⟨a, b, hab, toI_ok hh hg hx ha, toL_ok hh hg hl hb⟩

theorem toA_ok (hh : HOk B ρ w h) (hg : ∀ k b, get k = some b → h k = some b) {x y : AV} {v : Value} (ht : toA get x = some y) (hv : VRepr ρ x v) : DV w y v := by
  unfold toA at ht
  split at ht
  · rename_i g l
    cases hm : toL get l with
    | none => simp [hm] at ht
    | some m =>
      simp [hm] at ht
      subst ht
      obtain ⟨vs, h1, h2⟩ := hv
      exact ⟨vs, toL_ok hh hg hm h1, h2⟩
  · simp at ht
    subst ht
    obtain ⟨fs, cs, rfl, h2, h3⟩ := hv
    match fs, cs, h2, h3 with
    | [], [], _, _ => exact ⟨rfl, rfl, rfl⟩
  · simp at ht

theorem toAs_ok (hh : HOk B ρ w h) (hg : ∀ k b, get k = some b → h k = some b) : ∀ {xs ys : List AV} {vs : List Value}, toAs get xs = some ys → F2 (VRepr ρ) xs vs → F2 (DV w) ys vs
  | [], ys, vs, ht, hv => by
    simp [toAs] at ht
    subst ht
    match vs, hv with
    | [], _ => trivial
  | x :: xs, ys, v :: vs, ht, ⟨h1, h2⟩ => by
    simp only [toAs] at ht
    split at ht
    case h_2 => simp at ht
    rename_i y l hy hl
    simp at ht
    subst ht
    exact ⟨toA_ok hh hg hy h1, toAs_ok hh hg hl h2⟩
end

/-! ### Calls -/
def acall (Γ : FuncId → Option Ct) (f : FuncId) (args : List AV) (get : Nat → Option Blk) (F : Nat) : Option (AV × Upd) :=
  match Γ f with
  | some (.fn spec) =>
    match toAs get args with
    | some ds =>
      match spec ds with
      | some r => if (ofA F r).2.2 ≤ F + 16 then some ((ofA F r).1, mkU (ofA F r).2.1) else none
      | none => none
    | none => none
  | some (.pre n) =>
    match args with
    | [x] =>
      match x.one? with
      | some (.sl k off len) =>
        match toI get (.sl k off len) with
        | some d =>
          match n d with
          | some m => if m ≤ len then some (sc (.sl k off m), []) else none
          | none => none
        | none => none
      | _ => none
    | _ => none
  | none => none

theorem applyU_some : ∀ (bs : List (Nat × Blk)) (h : Nat → Option Blk) (k : Nat), applyU h (mkU bs) k = match lookB bs k with | some b => some b | none => h k := by
  have gen : ∀ (bs : List (Nat × Blk)) (h g : Nat → Option Blk) (k : Nat), applyU (fun j => match g j with | some b => some b | none => h j) (mkU bs) k = match applyU g (mkU bs) k with | some b => some b | none => h k := by
    intro bs
    induction bs with
    | nil => intro h g k; rfl
    | cons p bs ih =>
      intro h g k
      simp only [mkU, List.map_cons, applyU]
      have : updh (fun j => match g j with | some b => some b | none => h j) p.1 (some p.2) = fun j => match updh g p.1 (some p.2) j with | some b => some b | none => h j := by
        funext j
        simp only [updh]
        split <;> rfl
      rw [this]
      exact ih h _ k
  intro bs h k
  exact gen bs h (fun _ => none) k

theorem calls_post {B : Nat} {ρ : Nat → Pl} {w w' : World} {h : Nat → Option Blk} {F : Nat} {r : AV} {v : Value}
    (hh : HOk B ρ w h) (hF : ∀ k, F ≤ k → k < F + 16 → ρ k = .un) (hB : B ≤ w.heap.size) (hb : Below w.heap.size w w') (hr : ResOk w.heap.size w' r v) (hn : (ofA F r).2.2 ≤ F + 16) :
    Post B ρ w h F (ofA F r).1 (mkU (ofA F r).2.1) v w' := by
  obtain ⟨ρF, h1', h2, h3, h4⟩ := hr F
  have h1 : ∀ k, ρF k ≠ .un → F ≤ k ∧ k < F + 16 := fun k hk => by have := h1' k hk; omega
  have e1 : Ext ρ (fun k => if F ≤ k ∧ k < F + 16 then ρF k else ρ k) := by
    intro k hk
    have : ¬ (F ≤ k ∧ k < F + 16) := fun ⟨a, b⟩ => hk (hF k a b)
    simp [this]
  have e2 : Ext ρF (fun k => if F ≤ k ∧ k < F + 16 then ρF k else ρ k) := by
    intro k hk
    have := h1 k hk
    simp [this]
  refine ⟨_, e1, ?_, h3.ext e2, ?_, hb.mono hB⟩
  · intro k hk hk'
    by_cases c : F ≤ k ∧ k < F + 16
    · exact c
    · simp [c] at hk'; exact absurd hk hk'
  · have hold := (HOk.below (w' := w') hb.block hb.size hh).ext e1
    have hnew : HOk B (fun k => if F ≤ k ∧ k < F + 16 then ρF k else ρ k) w' (lookB (ofA F r).2.1) := by
      have := h4.ext e2
      refine ⟨fun k b hk => ?_, this.inj⟩
      have hb0 := this.blk k b hk
      unfold BlkOk at hb0 ⊢
      split
      · rename_i e; simp only [e] at hb0
      · rename_i e; simp only [e] at hb0; exact hb0
      · rename_i L e
        simp only [e] at hb0
        obtain ⟨vs, q0, q1, q2⟩ := hb0
        exact ⟨vs, q0, fun ho => let ⟨a, b, c⟩ := q1 ho; ⟨a, Nat.le_trans hB b, c⟩, q2⟩
    have side : ∀ k b, applyU h (mkU (ofA F r).2.1) k = some b → (lookB (ofA F r).2.1 k = some b ∧ F ≤ k ∧ k < F + 16) ∨ (h k = some b ∧ ¬ (F ≤ k ∧ k < F + 16)) := by
      intro k b hk
      rw [applyU_some] at hk
      split at hk
      · rename_i c hc
        simp at hk
        subst hk
        exact .inl ⟨hc, h1 k (h4.blk k c hc).un⟩
      · refine .inr ⟨hk, fun ⟨a, c⟩ => (hh.blk k b hk).un (hF k a c)⟩
    refine ⟨fun k b hk => ?_, fun k k' b b' hk hk' hne ho L L' hL hL' => ?_⟩
    · rcases side k b hk with ⟨q, _⟩ | ⟨q, _⟩
      · exact hnew.blk k b q
      · exact hold.blk k b q
    · rcases side k b hk with ⟨q, q1⟩ | ⟨q, q1⟩ <;> rcases side k' b' hk' with ⟨q', q1'⟩ | ⟨q', q1'⟩
      · exact hnew.inj k k' b b' q q' hne ho L L' hL hL'
      · have l1 : ρF k = .at L := by simpa [q1] using hL
        have l2 : ρ k' = .at L' := by simpa [q1'] using hL'
        have := h2 k L l1
        have := (hh.blk k' b' q').size l2
        omega
      · have l1 : ρF k' = .at L' := by simpa [q1'] using hL'
        have l2 : ρ k = .at L := by simpa [q1] using hL
        have := h2 k' L' l1
        have := (hh.blk k b q).size l2
        omega
      · exact hold.inj k k' b b' q q' hne ho L L' hL hL'

theorem acall_sound {P : Program} {Γ : FuncId → Option Ct} (hΓ : GSound P Γ) {B : Nat} {ρ : Nat → Pl} {w : World} {h : Nat → Option Blk} {F : Nat} {f : FuncId} {args : List AV} {vals : List Value} {y : AV} {upd : Upd} {get : Nat → Option Blk}
    (hG : GlobOk w) (hh : HOk B ρ w h) (hg : ∀ k b, get k = some b → h k = some b) (hF : ∀ k, F ≤ k → k < F + 16 → ρ k = .un) (hB : B ≤ w.heap.size) (ha : F2 (VRepr ρ) args vals) (hc : acall Γ f args get F = some (y, upd)) :
    callable P f = true ∧ Calls P f vals.toArray w fun e w' => ∃ v, e = .returned v ∧ Post B ρ w h F y upd v w' := by
  unfold acall at hc
  split at hc
  · rename_i spec hf
    obtain ⟨hct, hcal⟩ := hΓ f _ hf
    refine ⟨hcal, ?_⟩
    split at hc
    case h_2 => simp at hc
    rename_i ds hds
    split at hc
    case h_2 => simp at hc
    rename_i r hr
    split at hc <;> simp at hc
    rename_i hn
    obtain ⟨rfl, rfl⟩ := hc
    refine Calls.mono (hct ds r hr w vals (toAs_ok hh hg hds ha) hG) ?_
    rintro e w' ⟨v, rfl, hb, hres⟩
    exact ⟨v, rfl, calls_post hh hF hB hb hres hn⟩
  · rename_i n hf
    obtain ⟨hct, hcal⟩ := hΓ f _ hf
    refine ⟨hcal, ?_⟩
    split at hc
    case h_2 => simp at hc
    rename_i x
    match vals, ha with
    | [v], ⟨hx, _⟩ =>
    split at hc
    · rename_i k off len h1
      split at hc
      case h_2 => simp at hc
      rename_i d hd
      split at hc
      case h_2 => simp at hc
      rename_i m hm
      split at hc <;> simp at hc
      rename_i hle
      obtain ⟨rfl, rfl⟩ := hc
      have hv := one?_cells h1 hx
      have hdc := toI_ok hh hg hd hv
      have keep : ∀ w', Below w.heap.size w w' → HOk B ρ w' h ∧ Below B w w' := fun w' hb => ⟨HOk.below hb.block hb.size hh, hb.mono hB⟩
      rcases hv with ⟨L, cap, hL, hc1, hc2, e⟩ | ⟨e0, hnu, a, e⟩
      · simp at e
        subst e
        refine Calls.mono (hct d m hm w _ len cap hdc hG) ?_
        rintro e w' ⟨hml, hb, ⟨cap', rfl, k1, k2⟩ | ⟨rfl, a', rfl⟩⟩
        · exact ⟨_, rfl, ρ, Ext.refl ρ, fun _ p q => absurd p q, VRepr_sc.2 (.inl ⟨L, cap', hL, k1, by omega, rfl⟩), (keep w' hb).1, (keep w' hb).2⟩
        · exact ⟨_, rfl, ρ, Ext.refl ρ, fun _ p q => absurd p q, VRepr_sc.2 (.inr ⟨rfl, by rw [hL]; simp, a', rfl⟩), (keep w' hb).1, (keep w' hb).2⟩
      · simp at e
        subst e
        refine Calls.mono (hct d m hm w a 0 0 hdc hG) ?_
        rintro e w' ⟨hml, hb, ⟨cap', rfl, k1, k2⟩ | ⟨rfl, a', rfl⟩⟩
        · obtain rfl : m = 0 := by omega
          obtain rfl : cap' = 0 := by omega
          exact ⟨_, rfl, ρ, Ext.refl ρ, fun _ p q => absurd p q, VRepr_sc.2 (.inr ⟨rfl, hnu, a, rfl⟩), (keep w' hb).1, (keep w' hb).2⟩
        · exact ⟨_, rfl, ρ, Ext.refl ρ, fun _ p q => absurd p q, VRepr_sc.2 (.inr ⟨rfl, hnu, a', rfl⟩), (keep w' hb).1, (keep w' hb).2⟩
    · simp at hc
  · simp at hc
end Go.Ev
/- One operation of whatever kind, in a region. Own work; no statement of the seat is proved here. -/
namespace Go.Ev
open Go.RowKit

/-- A nil slice that is written as a constant is an empty list that lies nowhere. -/
def nilRow (P : Program) (t : TypeId) : Option Row :=
  match slT P t with
  | some e => match intT P e with
    | some .i64 => some (.i [])
    | some .u8 => some (.b [])
    | some .u32 => some (.w [])
    | some .u64 => some (.q [])
    | _ => none
  | none => none

def isNilConst : Operand → Bool
  | .const (.slice none 0 0) => true
  | _ => false

def amove (P : Program) (t : TypeId) (x : Operand) (v : AV) (F : Nat) : Option (AV × Upd) :=
  if isNilConst x then
    match nilRow P t with
    | some r => some (sc (.sl F 0 0), [(F, some ⟨true, [r.item]⟩)])
    | none => some (v, [])
  else some (v, [])

def firsts : List AV → Option (List (Bool × List IV))
  | [] => some []
  | .val g l :: r => (firsts r).map ((g, l) :: ·)
  | _ => none
def ptrs : List AV → Option (List (Nat × Nat))
  | [] => some []
  | x :: r => match x.ptr?, ptrs r with
    | some p, some l => some (p :: l)
    | _, _ => none

def abuiltin (P : Program) (b : Builtin) (ts : List TypeId) (args : List AV) (get : Nat → Option Blk) (F : Nat) : Option (AV × Upd) :=
  match b, ts, args with
  | .len, [t], [x] => alen P t x
  | .max, _, [x, y] => amax x y
  | .min, _, [x, y] => amin x y
  | .append, [t, t'], [x, y] => if t = t' then aappend P t x y get F else aappendZ P t t' x y get F
  | .copy, [t, _], [x, y] => acopy P t x y get
  | _, _, _ => none

def acore (P : Program) (Γ : FuncId → Option Ct) (o : Oper) (ev : Operand → AV) (get : Nat → Option Blk) (F : Nat) : Option (AV × Upd) :=
  match o.op with
  | .move x => amove P o.type x (ev x) F
  | .assign x => amove P o.type x (ev x) F
  | .pick c a b => match (ev c).one? with
    | some (.bool t) => some (if t then ev a else ev b, [])
    | _ => none
  | .alloc t => aalloc P t F
  | .box _ x => abox (ev x) F
  | .build t parts => abuild P t (parts.toList.map fun p => (p.1, ev p.2))
  | .buildSlice t len parts => abuildSlice P t len (parts.toList.map fun p => (p.1, ev p.2)) F
  | .load t x => aloadG P t (ev x) get
  | .store t x y => astore P t (ev x) (ev y) get
  | .nilCheck x => match (ev x).ptr? with
    | some _ => some (ev x, [])
    | none => match (ev x).gp? with
      | some _ => some (ev x, [])
      | none => none
  | .binOp op t x y _ => match ev x, ev y with
    | .val false [a], .val false [b] => (abin P op t a b).map fun z => (sc z, [])
    | .val true l, .val true m => (aeqAgg P op t l m).map fun z => (sc z, [])
    | _, _ => none
  | .unOp op _ x => match (ev x).one? with
    | some a => (aun op a).map fun z => (sc z, [])
    | none => none
  | .convert src dst x => aconvert P src dst (ev x) get
  | .sliceToArrayPointer t x => aarrayAt P t (ev x)
  | .makeFunc (.func f) first cap => match firsts (first.toList.map ev), ptrs (cap.toList.map ev) with
    | some l, some m => some (.fn f l m, [])
    | _, _ => none
  | .makeSlice t l c => amake P t (ev l) (ev c) F
  | .slice t x lo hi mx => aslice P t (ev x) (lo.map ev) (hi.map ev) (mx.map ev) get
  | .fieldAddr t x f => afieldAddrG P t (ev x) f
  | .field t x f => afield P t (ev x) f
  | .indexAddr t x i => aindexAddrG P t (ev x) (ev i)
  | .index t x i => aindex P t (ev x) (ev i)
  | .extract x i => aextract (ev x) i
  | .call c => match c.callee with
    | .builtin b => abuiltin P b c.argTypes.toList (c.args.toList.map ev) get F
    | .value f => match ev f with
      | .fn g first [] => acall Γ g (first.map (fun p => .val p.1 p.2) ++ c.args.toList.map ev) get F
      | _ => none
    | _ => none
  | _ => none

theorem F2_mapv {ρ : Nat → Pl} {ev : Operand → AV} {a : Operand → Value} (h : ∀ x, VRepr ρ (ev x) (a x)) : ∀ l : List Operand, F2 (VRepr ρ) (l.map ev) (l.map a)
  | [] => trivial
  | x :: l => ⟨h x, F2_mapv h l⟩
theorem F2_parts {ρ : Nat → Pl} {ev : Operand → AV} {a : Operand → Value} (h : ∀ x, VRepr ρ (ev x) (a x)) : ∀ l : List (Nat × Operand),
    F2 (fun (p : Nat × AV) (q : Nat × Value) => p.1 = q.1 ∧ VRepr ρ p.2 q.2) (l.map fun p => (p.1, ev p.2)) (l.map fun p => (p.1, a p.2))
  | [] => trivial
  | x :: l => ⟨⟨rfl, h x.2⟩, F2_parts h l⟩
theorem firsts_ok {ρ : Nat → Pl} : ∀ {l : List AV} {m : List (Bool × List IV)} {vs : List Value}, firsts l = some m → F2 (VRepr ρ) l vs → F2 (VR1 ρ) m vs
  | [], m, vs, h, hv => by
    simp [firsts] at h
    subst h
    match vs, hv with
    | [], _ => trivial
  | x :: l, m, v :: vs, h, ⟨h1, h2⟩ => by
    cases x <;> simp [firsts] at h
    obtain ⟨m', h3, rfl⟩ := h
    exact ⟨h1, firsts_ok h3 h2⟩
theorem ptrs_ok {ρ : Nat → Pl} : ∀ {l : List AV} {m : List (Nat × Nat)} {vs : List Value}, ptrs l = some m → F2 (VRepr ρ) l vs → F2 (fun p c => ICells ρ (.ptr p.1 p.2) [c]) m vs
  | [], m, vs, h, hv => by
    simp [ptrs] at h
    subst h
    match vs, hv with
    | [], _ => trivial
  | x :: l, m, v :: vs, h, ⟨h1, h2⟩ => by
    simp only [ptrs] at h
    split at h
    case h_2 => simp at h
    rename_i p m' hp hm
    simp at h
    subst h
    obtain ⟨L, hL, rfl⟩ := ptr?_ok (k := p.1) (off := p.2) hp h1
    exact ⟨⟨L, hL, rfl⟩, ptrs_ok hm h2⟩

theorem F2_vals {ρ : Nat → Pl} : ∀ {l : List (Bool × List IV)} {vs : List Value}, F2 (VR1 ρ) l vs → F2 (VRepr ρ) (l.map fun p => AV.val p.1 p.2) vs
  | [], [], _ => trivial
  | _ :: _, _ :: _, ⟨a, b⟩ => ⟨a, F2_vals b⟩

theorem OptR_map {ρ : Nat → Pl} {ev : Operand → AV} {a : Operand → Value} (h : ∀ x, VRepr ρ (ev x) (a x)) (x : Option Operand) : OptR ρ (x.map ev) (x.map a) := by
  cases x with
  | none => trivial
  | some x => exact h x

section
variable {P : Program} {Γ : FuncId → Option Ct} {B : Nat} {ρ : Nat → Pl} {w : World} {h : Nat → Option Blk} {F : Nat}

theorem amove_sound {t : TypeId} {x : Operand} {v y : AV} {upd : Upd} {a : Act} (hh : HOk B ρ w h) (hF : ∀ k, F ≤ k → k < F + 16 → ρ k = .un) (hv : VRepr ρ v (a.eval x)) (hc : amove P t x v F = some (y, upd)) :
    Post B ρ w h F y upd (a.eval x) w := by
  unfold amove at hc
  split at hc
  · rename_i hx
    split at hc
    · rename_i r hr
      simp at hc
      obtain ⟨rfl, rfl⟩ := hc
      have hval : a.eval x = .slice none 0 0 := by
        unfold isNilConst at hx
        split at hx
        · rfl
        · simp at hx
      have hun := hF F (Nat.le_refl _) (by omega)
      have hr0 : r.vals = [] := by
        unfold nilRow at hr
        split at hr
        case h_2 => simp at hr
        split at hr <;> simp at hr <;> subst hr <;> rfl
      refine ⟨updρ ρ F .ph, ext_updρ hun _, ?_, ?_, ?_, Below.refl B w⟩
      · intro k h1 h2
        by_cases e : k = F
        · omega
        · rw [updρ_other _ _ _ e] at h2; exact absurd h1 h2
      · rw [hval]
        exact VRepr_sc.2 (.inr ⟨rfl, by rw [updρ_same]; simp, none, rfl⟩)
      · refine hh.add hun .ph _ (fun _ _ => rfl) (Nat.le_refl _) (fun L hL => by simp at hL) ?_
        simp only [BlkOk, updρ_same]
        exact item_of_vals hr0
    · simp at hc; obtain ⟨rfl, rfl⟩ := hc; exact Post.pure hh hv
  · simp at hc; obtain ⟨rfl, rfl⟩ := hc; exact Post.pure hh hv

/-- ONE OPERATION: what the evaluator answers of it holds of the model's. -/
theorem acore_sound (hΓ : GSound P Γ) {o : Oper} {ev : Operand → AV} {a : Act} {get : Nat → Option Blk} {y : AV} {upd : Upd} {K : Act → World → Prop} {Q : Exit → Act → World → Prop}
    (hG : GlobOk w) (hh : HOk B ρ w h) (hg : ∀ k b, get k = some b → h k = some b) (hev : ∀ x, VRepr ρ (ev x) (a.eval x)) (hF : ∀ k, F ≤ k → k < F + 16 → ρ k = .un) (hB : B ≤ w.heap.size)
    (hc : acore P Γ o ev get F = some (y, upd)) (hK : ∀ v w', Post B ρ w h F y upd v w' → K (a.put o.dst v) w') : o.wp P a w K Q := by
  have hun := hF F (Nat.le_refl _) (by omega)
  have val : ∀ (s : Sem Value), (execOp a.eval o = do pure (.value (← s))) → (∃ r w', s.run P w = .ok r w' ∧ Post B ρ w h F y upd r w') → o.wp P a w K Q := by
    rintro s hs ⟨r, w', h1, h2⟩
    unfold Oper.wp
    rw [hs, Sem.run_bind, h1]
    exact hK r w' h2
  unfold acore at hc
  split at hc
  case h_1 x hop =>
    unfold Oper.wp
    simp only [execOp, hop, Sem.run_pure]
    exact hK _ _ (amove_sound hh hF (hev x) hc)
  case h_2 x hop =>
    unfold Oper.wp
    simp only [execOp, hop, Sem.run_pure]
    exact hK _ _ (amove_sound hh hF (hev x) hc)
  case h_3 c x z hop =>
    split at hc
    case h_2 => simp at hc
    rename_i t ht
    simp at hc
    obtain ⟨rfl, rfl⟩ := hc
    have hb := one?_cells ht (hev c)
    simp [ICells, PCells] at hb
    unfold Oper.wp
    simp only [execOp, hop, ← hb, asBool, Sem.run_bind, Sem.run_pure, Result.andThen_ok]
    refine hK _ _ (Post.pure hh ?_)
    cases t
    · exact hev z
    · exact hev x
  case h_4 t hop => exact val _ (by simp only [execOp, hop]) (aalloc_sound hh hun hB hc)
  case h_5 t x hop => exact val (Instr.box t (a.eval x)) (by simp only [execOp, hop]) (abox_sound hh hun hB (hev x) hc)
  case h_6 t parts hop =>
    refine val (Instr.build t (parts.map fun (i, x) => (i, a.eval x))) (by simp only [execOp, hop]) ?_
    obtain ⟨r, w', h1, h2⟩ := abuild_sound (w := w) (F := F) hh (F2_parts hev parts.toList) hc
    refine ⟨r, w', ?_, h2⟩
    rw [← h1]
    congr 2
    apply Array.ext'
    simp
  case h_7 t len parts hop =>
    refine val (Instr.buildSlice t len (parts.map fun (i, x) => (i, a.eval x))) (by simp only [execOp, hop]) ?_
    obtain ⟨r, w', h1, h2⟩ := abuildSlice_sound (w := w) (F := F) hh hun hB (F2_parts hev parts.toList) hc
    refine ⟨r, w', ?_, h2⟩
    rw [← h1]
    congr 2
    apply Array.ext'
    simp
  case h_8 t x hop => exact val _ (by simp only [execOp, hop]) (aloadG_sound hG hh hg (hev x) hc)
  case h_9 t x z hop =>
    obtain ⟨w', h1, h2⟩ := astore_sound (F := F) hh hg (hev x) (hev z) hc
    unfold Oper.wp
    simp only [execOp, hop, Sem.run_bind, h1, Result.andThen_ok, Sem.run_pure]
    exact hK _ _ h2
  case h_10 x hop =>
    split at hc
    · rename_i p hp
      simp at hc
      obtain ⟨rfl, rfl⟩ := hc
      obtain ⟨L, hL, hv⟩ := ptr?_ok (k := p.1) (off := p.2) hp (hev x)
      have hx := hev x
      rw [hv] at hx
      unfold Oper.wp
      simp only [execOp, hop, hv, Sem.run_pure]
      exact hK _ _ (Post.pure hh hx)
    · split at hc
      case h_2 => simp at hc
      rename_i p hp
      simp at hc
      obtain ⟨rfl, rfl⟩ := hc
      have hv := gp?_ok (g := p.1) (off := p.2) hp (hev x)
      have hx := hev x
      rw [hv] at hx
      unfold Oper.wp
      simp only [execOp, hop, hv, Sem.run_pure]
      exact hK _ _ (Post.pure hh hx)
  case h_11 op t x z _ hop =>
    split at hc
    · rename_i p q hp hq
      cases hz : abin P op t p q with
      | none => simp [hz] at hc
      | some r =>
        simp [hz] at hc
        obtain ⟨rfl, rfl⟩ := hc
        have hx := hev x
        have hy := hev z
        rw [hp] at hx
        rw [hq] at hy
        have hpc : ∀ {i : IV} {v : Value}, ICells ρ i [v] → (∃ k off, i = .ptr k off) ∨ (∃ k off len, i = .sl k off len) ∨ PCells i = some [v] := by
          intro i v hi
          cases i
          case ptr k off => exact .inl ⟨k, off, rfl⟩
          case sl k off len => exact .inr (.inl ⟨k, off, len, rfl⟩)
          all_goals exact .inr (.inr hi)
        have bad : ∀ {i j : IV}, abin P op t i j = some r → (∀ k off, i ≠ .ptr k off) ∧ (∀ k off len, i ≠ .sl k off len) ∧ (∀ k off, j ≠ .ptr k off) ∧ (∀ k off len, j ≠ .sl k off len) := by
          intro i j hij
          unfold abin at hij
          refine ⟨?_, ?_, ?_, ?_⟩ <;> intros <;> rintro rfl <;> split at hij <;> simp [amount] at hij
          all_goals (split at hij <;> simp at hij)
        obtain ⟨b1, b2, b3, b4⟩ := bad hz
        have px : PCells p = some [a.eval x] := by
          rcases hpc (VRepr_sc.1 hx) with ⟨k, off, e⟩ | ⟨k, off, len, e⟩ | e
          · exact absurd e (b1 k off)
          · exact absurd e (b2 k off len)
          · exact e
        have py : PCells q = some [a.eval z] := by
          rcases hpc (VRepr_sc.1 hy) with ⟨k, off, e⟩ | ⟨k, off, len, e⟩ | e
          · exact absurd e (b3 k off)
          · exact absurd e (b4 k off len)
          · exact e
        obtain ⟨v, h1, h2⟩ := abin_sound w op t x z p q r _ _ hz px py
        exact val _ (by simp only [execOp, hop]) ⟨v, w, h1, Post.pure hh (VRepr_sc.2 (ICells_of_P h2))⟩
    · rename_i l m hp hq
      cases hz : aeqAgg P op t l m with
      | none => simp [hz] at hc
      | some r =>
        simp [hz] at hc
        obtain ⟨rfl, rfl⟩ := hc
        have hx := hev x
        have hy := hev z
        rw [hp] at hx
        rw [hq] at hy
        obtain ⟨xs, x1, x2⟩ := hx
        obtain ⟨ys, y1, y2⟩ := hy
        simp at x2 y2
        obtain ⟨v, h1, h2⟩ := aeqAgg_sound (w := w) (x := x) (y := z) x1 y1 hz
        rw [← x2, ← y2] at h1
        exact val _ (by simp only [execOp, hop]) ⟨v, w, h1, Post.pure hh (VRepr_sc.2 (ICells_of_P h2))⟩
    · simp at hc
  case h_12 op t x hop =>
    split at hc
    case h_2 => simp at hc
    rename_i p hp
    cases hz : aun op p with
    | none => simp [hz] at hc
    | some r =>
      simp [hz] at hc
      obtain ⟨rfl, rfl⟩ := hc
      have hx := one?_cells hp (hev x)
      have px : PCells p = some [a.eval x] := by cases p <;> first | exact hx | (simp [aun] at hz)
      obtain ⟨v, h1, h2⟩ := aun_sound (P := P) w op p r _ hz px
      exact val _ (by simp only [execOp, hop]) ⟨v, w, h1, Post.pure hh (VRepr_sc.2 (ICells_of_P h2))⟩
  case h_13 src dst x hop => exact val _ (by simp only [execOp, hop]) (aconvert_sound hh hg (hev x) hc)
  case h_14 t x hop => exact val _ (by simp only [execOp, hop]) (aarrayAt_sound hh (hev x) hc)
  case h_15 f first cap hop =>
    split at hc
    case h_2 => simp at hc
    rename_i l m hl hm
    simp at hc
    obtain ⟨rfl, rfl⟩ := hc
    refine val (Instr.makeFunc (.func f) (first.map a.eval) (cap.map a.eval)) (by simp only [execOp, hop]) ⟨_, w, rfl, Post.pure hh ?_⟩
    refine ⟨(first.toList.map a.eval), (cap.toList.map a.eval), by rw [← Array.toList_map, ← Array.toList_map, Array.toArray_toList, Array.toArray_toList], firsts_ok hl (F2_mapv hev _), ptrs_ok hm (F2_mapv hev _)⟩
  case h_16 t l c hop => exact val _ (by simp only [execOp, hop]) (amake_sound hh hun hB (hev l) (hev c) hc)
  case h_17 t x lo hi mx hop => exact val _ (by simp only [execOp, hop]) (aslice_sound hh hg (hev x) (OptR_map hev lo) (OptR_map hev hi) (OptR_map hev mx) hc)
  case h_18 t x f hop => exact val _ (by simp only [execOp, hop]) (afieldAddrG_sound hh (hev x) hc)
  case h_19 t x f hop => exact val _ (by simp only [execOp, hop]) (afield_sound hh (hev x) hc)
  case h_20 t x i hop => exact val _ (by simp only [execOp, hop]) (aindexAddrG_sound hh (hev x) (hev i) hc)
  case h_21 t x i hop => exact val _ (by simp only [execOp, hop]) (aindex_sound hh (hev x) (hev i) hc)
  case h_22 x i hop => exact val _ (by simp only [execOp, hop]) (aextract_sound hh (hev x) hc)
  case h_23 c hop =>
    obtain ⟨callee, args, ts⟩ := c
    simp only at hc
    split at hc
    · rename_i b
      obtain ⟨args⟩ := args
      obtain ⟨ts⟩ := ts
      have bi : ∀ (bb : Builtin) (s : Sem Value), b = bb → (∀ consts, builtin bb ts.toArray o.type consts (args.map a.eval).toArray = do pure (.value (← s))) → (∃ r w', s.run P w = .ok r w' ∧ Post B ρ w h F y upd r w') → o.wp P a w K Q := by
        intro bb s hb hs hr
        subst hb
        refine val s ?_ hr
        simp only [execOp, hop, resolve, invoke, pure_bind, List.map_toArray]
        exact hs _
      simp only [abuiltin] at hc
      split at hc
      · rename_i t x hargs
        have hx : ∃ x0, args = [x0] ∧ ev x0 = x := by
          match args, hargs with
          | [x0], e => simp at e; exact ⟨x0, rfl, e⟩
        obtain ⟨x0, rfl, rfl⟩ := hx
        exact bi .len _ rfl (fun _ => rfl) (alen_sound hh (hev x0) hc)
      · rename_i x z hargs
        have hx : ∃ x0 z0, args = [x0, z0] ∧ ev x0 = x ∧ ev z0 = z := by
          match args, hargs with
          | [x0, z0], e => simp at e; exact ⟨x0, z0, rfl, e.1, e.2⟩
        obtain ⟨x0, z0, rfl, rfl, rfl⟩ := hx
        exact bi .max _ rfl (fun _ => rfl) (amax_sound hh (hev x0) (hev z0) hc)
      · rename_i x z hargs
        have hx : ∃ x0 z0, args = [x0, z0] ∧ ev x0 = x ∧ ev z0 = z := by
          match args, hargs with
          | [x0, z0], e => simp at e; exact ⟨x0, z0, rfl, e.1, e.2⟩
        obtain ⟨x0, z0, rfl, rfl, rfl⟩ := hx
        exact bi .min _ rfl (fun _ => rfl) (amin_sound hh (hev x0) (hev z0) hc)
      · rename_i t t' x z hargs
        have hx : ∃ x0 z0, args = [x0, z0] ∧ ev x0 = x ∧ ev z0 = z := by
          match args, hargs with
          | [x0, z0], e => simp at e; exact ⟨x0, z0, rfl, e.1, e.2⟩
        obtain ⟨x0, z0, rfl, rfl, rfl⟩ := hx
        split at hc
        case isFalse => exact bi .append _ rfl (fun _ => rfl) (aappendZ_sound hh hg hun hB (hev x0) (hev z0) hc)
        rename_i htt
        subst htt
        exact bi .append _ rfl (fun _ => rfl) (aappend_sound hh hg hun hB (hev x0) (hev z0) hc)
      · rename_i t t' x z hargs
        have hx : ∃ x0 z0, args = [x0, z0] ∧ ev x0 = x ∧ ev z0 = z := by
          match args, hargs with
          | [x0, z0], e => simp at e; exact ⟨x0, z0, rfl, e.1, e.2⟩
        obtain ⟨x0, z0, rfl, rfl, rfl⟩ := hx
        exact bi .copy _ rfl (fun _ => rfl) (acopy_sound hh hg (hev x0) (hev z0) hc)
      · simp at hc
    · rename_i f
      split at hc
      case h_2 => simp at hc
      rename_i g first hf
      have hfv := hev f
      rw [hf] at hfv
      obtain ⟨fs, cs, h1, h2, h3⟩ := hfv
      have hcs : cs = [] := by
        match cs, h3 with
        | [], _ => rfl
      subst hcs
      obtain ⟨hcal, hcalls⟩ := acall_sound hΓ (F := F) hG hh hg hF hB (F2.append (F2_vals h2) (F2_mapv hev args.toList)) hc
      unfold Oper.wp
      have hexec : (execOp a.eval o).run P w = .ok (.enter g (fs ++ args.toList.map a.eval).toArray) w := by
        simp only [execOp, hop, resolve, h1, Deferred.ofValue, Sem.run_bind, Sem.run_pure, Result.andThen_ok, invoke]
        have : (fs.toArray ++ Array.map a.eval args ++ [].toArray) = (fs ++ args.toList.map a.eval).toArray := by simp
        rw [this, run_callFunc hcal]
      rw [hexec]
      show Calls P g _ w _
      refine hcalls.mono ?_
      rintro e w' ⟨v, rfl, hp⟩
      exact hK v w' hp
    · simp at hc
  case h_24 => simp at hc
end
end Go.Ev
