/- One operation of whatever kind, in a region. Own work; no statement of the seat is proved here. -/
import Derived.Test.YtclngijinhcdpaaEvG
namespace Go.Ev
open Go.RowKit

/-- A nil slice that is written as a constant is an empty list that lies nowhere. -/
def nilRow (P : Program) (t : TypeId) : Option Row :=
  match slT P t with
  | some e => match intT P e with
    | some .i64 => some (.i [])
    | some .u8 => some (.b [])
    | some .u32 => some (.w [])
    | _ => none
  | none => none

def isNilConst : Operand → Bool
  | .const (.slice none 0 0) => true
  | _ => false

def amove (P : Program) (t : TypeId) (x : Operand) (v : AV) (F : Nat) : Option (AV × Upd) :=
  if isNilConst x then
    match nilRow P t with
    | some r => some (sc (.sl F 0 0), [(F, some ⟨true, [r.item]⟩)])
    | none => some (v, [])
  else some (v, [])

def firsts : List AV → Option (List (Bool × List IV))
  | [] => some []
  | .val g l :: r => (firsts r).map ((g, l) :: ·)
  | _ => none
def ptrs : List AV → Option (List (Nat × Nat))
  | [] => some []
  | x :: r => match x.ptr?, ptrs r with
    | some p, some l => some (p :: l)
    | _, _ => none

def abuiltin (P : Program) (b : Builtin) (ts : List TypeId) (args : List AV) (get : Nat → Option Blk) (F : Nat) : Option (AV × Upd) :=
  match b, ts, args with
  | .len, [t], [x] => alen P t x
  | .max, _, [x, y] => amax x y
  | .min, _, [x, y] => amin x y
  | .append, [t, t'], [x, y] => if t = t' then aappend P t x y get F else none
  | .copy, [t, _], [x, y] => acopy P t x y get
  | _, _, _ => none

def acore (P : Program) (Γ : FuncId → Option Ct) (o : Oper) (ev : Operand → AV) (get : Nat → Option Blk) (F : Nat) : Option (AV × Upd) :=
  match o.op with
  | .move x => amove P o.type x (ev x) F
  | .assign x => amove P o.type x (ev x) F
  | .pick c a b => match (ev c).one? with
    | some (.bool t) => some (if t then ev a else ev b, [])
    | _ => none
  | .alloc t => aalloc P t F
  | .box _ x => abox (ev x) F
  | .build t parts => abuild P t (parts.toList.map fun p => (p.1, ev p.2))
  | .buildSlice t len parts => abuildSlice P t len (parts.toList.map fun p => (p.1, ev p.2)) F
  | .load t x => aload P t (ev x) get
  | .store t x y => astore P t (ev x) (ev y) get
  | .nilCheck x => match (ev x).ptr? with
    | some _ => some (ev x, [])
    | none => none
  | .binOp op t x y _ => match ev x, ev y with
    | .val false [a], .val false [b] => (abin P op t a b).map fun z => (sc z, [])
    | .val true l, .val true m => (aeqAgg P op t l m).map fun z => (sc z, [])
    | _, _ => none
  | .unOp op _ x => match (ev x).one? with
    | some a => (aun op a).map fun z => (sc z, [])
    | none => none
  | .convert src dst x => aconvert P src dst (ev x) get
  | .sliceToArrayPointer t x => aarrayAt P t (ev x)
  | .makeFunc (.func f) first cap => match firsts (first.toList.map ev), ptrs (cap.toList.map ev) with
    | some l, some m => some (.fn f l m, [])
    | _, _ => none
  | .makeSlice t l c => amake P t (ev l) (ev c) F
  | .slice t x lo hi mx => aslice P t (ev x) (lo.map ev) (hi.map ev) (mx.map ev) get
  | .fieldAddr t x f => afieldAddr P t (ev x) f
  | .field t x f => afield P t (ev x) f
  | .indexAddr t x i => aindexAddr P t (ev x) (ev i)
  | .index t x i => aindex P t (ev x) (ev i)
  | .extract x i => aextract (ev x) i
  | .call c => match c.callee with
    | .builtin b => abuiltin P b c.argTypes.toList (c.args.toList.map ev) get F
    | .value f => match ev f with
      | .fn g first [] => acall Γ g (first.map (fun p => .val p.1 p.2) ++ c.args.toList.map ev) get F
      | _ => none
    | _ => none
  | _ => none

theorem F2_mapv {ρ : Nat → Pl} {ev : Operand → AV} {a : Operand → Value} (h : ∀ x, VRepr ρ (ev x) (a x)) : ∀ l : List Operand, F2 (VRepr ρ) (l.map ev) (l.map a)
  | [] => trivial
  | x :: l => ⟨h x, F2_mapv h l⟩
theorem F2_parts {ρ : Nat → Pl} {ev : Operand → AV} {a : Operand → Value} (h : ∀ x, VRepr ρ (ev x) (a x)) : ∀ l : List (Nat × Operand),
    F2 (fun (p : Nat × AV) (q : Nat × Value) => p.1 = q.1 ∧ VRepr ρ p.2 q.2) (l.map fun p => (p.1, ev p.2)) (l.map fun p => (p.1, a p.2))
  | [] => trivial
  | x :: l => ⟨⟨rfl, h x.2⟩, F2_parts h l⟩
theorem firsts_ok {ρ : Nat → Pl} : ∀ {l : List AV} {m : List (Bool × List IV)} {vs : List Value}, firsts l = some m → F2 (VRepr ρ) l vs → F2 (VR1 ρ) m vs
  | [], m, vs, h, hv => by
    simp [firsts] at h
    subst h
    match vs, hv with
    | [], _ => trivial
  | x :: l, m, v :: vs, h, ⟨h1, h2⟩ => by
    cases x <;> simp [firsts] at h
    obtain ⟨m', h3, rfl⟩ := h
    exact ⟨h1, firsts_ok h3 h2⟩
theorem ptrs_ok {ρ : Nat → Pl} : ∀ {l : List AV} {m : List (Nat × Nat)} {vs : List Value}, ptrs l = some m → F2 (VRepr ρ) l vs → F2 (fun p c => ICells ρ (.ptr p.1 p.2) [c]) m vs
  | [], m, vs, h, hv => by
    simp [ptrs] at h
    subst h
    match vs, hv with
    | [], _ => trivial
  | x :: l, m, v :: vs, h, ⟨h1, h2⟩ => by
    simp only [ptrs] at h
    split at h
    case h_2 => simp at h
    rename_i p m' hp hm
    simp at h
    subst h
    obtain ⟨L, hL, rfl⟩ := ptr?_ok (k := p.1) (off := p.2) hp h1
    exact ⟨⟨L, hL, rfl⟩, ptrs_ok hm h2⟩

theorem F2_vals {ρ : Nat → Pl} : ∀ {l : List (Bool × List IV)} {vs : List Value}, F2 (VR1 ρ) l vs → F2 (VRepr ρ) (l.map fun p => AV.val p.1 p.2) vs
  | [], [], _ => trivial
  | _ :: _, _ :: _, ⟨a, b⟩ => ⟨a, F2_vals b⟩

theorem OptR_map {ρ : Nat → Pl} {ev : Operand → AV} {a : Operand → Value} (h : ∀ x, VRepr ρ (ev x) (a x)) (x : Option Operand) : OptR ρ (x.map ev) (x.map a) := by
  cases x with
  | none => trivial
  | some x => exact h x

section
variable {P : Program} {Γ : FuncId → Option Ct} {B : Nat} {ρ : Nat → Pl} {w : World} {h : Nat → Option Blk} {F : Nat}

theorem amove_sound {t : TypeId} {x : Operand} {v y : AV} {upd : Upd} {a : Act} (hh : HOk B ρ w h) (hF : ∀ k, F ≤ k → k < F + 16 → ρ k = .un) (hv : VRepr ρ v (a.eval x)) (hc : amove P t x v F = some (y, upd)) :
    Post B ρ w h F y upd (a.eval x) w := by
  unfold amove at hc
  split at hc
  · rename_i hx
    split at hc
    · rename_i r hr
      simp at hc
      obtain ⟨rfl, rfl⟩ := hc
      have hval : a.eval x = .slice none 0 0 := by
        unfold isNilConst at hx
        split at hx
        · rfl
        · simp at hx
      have hun := hF F (Nat.le_refl _) (by omega)
      have hr0 : r.vals = [] := by
        unfold nilRow at hr
        split at hr
        case h_2 => simp at hr
        split at hr <;> simp at hr <;> subst hr <;> rfl
      refine ⟨updρ ρ F .ph, ext_updρ hun _, ?_, ?_, ?_, Below.refl B w⟩
      · intro k h1 h2
        by_cases e : k = F
        · omega
        · rw [updρ_other _ _ _ e] at h2; exact absurd h1 h2
      · rw [hval]
        exact VRepr_sc.2 (.inr ⟨rfl, by rw [updρ_same]; simp, none, rfl⟩)
      · refine hh.add hun .ph _ (fun _ _ => rfl) (Nat.le_refl _) (fun L hL => by simp at hL) ?_
        simp only [BlkOk, updρ_same]
        exact item_of_vals hr0
    · simp at hc; obtain ⟨rfl, rfl⟩ := hc; exact Post.pure hh hv
  · simp at hc; obtain ⟨rfl, rfl⟩ := hc; exact Post.pure hh hv

/-- ONE OPERATION: what the evaluator answers of it holds of the model's. -/
theorem acore_sound (hΓ : GSound P Γ) {o : Oper} {ev : Operand → AV} {a : Act} {get : Nat → Option Blk} {y : AV} {upd : Upd} {K : Act → World → Prop} {Q : Exit → Act → World → Prop}
    (hh : HOk B ρ w h) (hg : ∀ k b, get k = some b → h k = some b) (hev : ∀ x, VRepr ρ (ev x) (a.eval x)) (hF : ∀ k, F ≤ k → k < F + 16 → ρ k = .un) (hB : B ≤ w.heap.size)
    (hc : acore P Γ o ev get F = some (y, upd)) (hK : ∀ v w', Post B ρ w h F y upd v w' → K (a.put o.dst v) w') : o.wp P a w K Q := by
  have hun := hF F (Nat.le_refl _) (by omega)
  have val : ∀ (s : Sem Value), (execOp a.eval o = do pure (.value (← s))) → (∃ r w', s.run P w = .ok r w' ∧ Post B ρ w h F y upd r w') → o.wp P a w K Q := by
    rintro s hs ⟨r, w', h1, h2⟩
    unfold Oper.wp
    rw [hs, Sem.run_bind, h1]
    exact hK r w' h2
  unfold acore at hc
  split at hc
  case h_1 x hop =>
    unfold Oper.wp
    simp only [execOp, hop, Sem.run_pure]
    exact hK _ _ (amove_sound hh hF (hev x) hc)
  case h_2 x hop =>
    unfold Oper.wp
    simp only [execOp, hop, Sem.run_pure]
    exact hK _ _ (amove_sound hh hF (hev x) hc)
  case h_3 c x z hop =>
    split at hc
    case h_2 => simp at hc
    rename_i t ht
    simp at hc
    obtain ⟨rfl, rfl⟩ := hc
    have hb := one?_cells ht (hev c)
    simp [ICells, PCells] at hb
    unfold Oper.wp
    simp only [execOp, hop, ← hb, asBool, Sem.run_bind, Sem.run_pure, Result.andThen_ok]
    refine hK _ _ (Post.pure hh ?_)
    cases t
    · exact hev z
    · exact hev x
  case h_4 t hop => exact val _ (by simp only [execOp, hop]) (aalloc_sound hh hun hB hc)
  case h_5 t x hop => exact val (Instr.box t (a.eval x)) (by simp only [execOp, hop]) (abox_sound hh hun hB (hev x) hc)
  case h_6 t parts hop =>
    refine val (Instr.build t (parts.map fun (i, x) => (i, a.eval x))) (by simp only [execOp, hop]) ?_
    obtain ⟨r, w', h1, h2⟩ := abuild_sound (w := w) (F := F) hh (F2_parts hev parts.toList) hc
    refine ⟨r, w', ?_, h2⟩
    rw [← h1]
    congr 2
    apply Array.ext'
    simp
  case h_7 t len parts hop =>
    refine val (Instr.buildSlice t len (parts.map fun (i, x) => (i, a.eval x))) (by simp only [execOp, hop]) ?_
    obtain ⟨r, w', h1, h2⟩ := abuildSlice_sound (w := w) (F := F) hh hun hB (F2_parts hev parts.toList) hc
    refine ⟨r, w', ?_, h2⟩
    rw [← h1]
    congr 2
    apply Array.ext'
    simp
  case h_8 t x hop => exact val _ (by simp only [execOp, hop]) (aload_sound hh hg (hev x) hc)
  case h_9 t x z hop =>
    obtain ⟨w', h1, h2⟩ := astore_sound (F := F) hh hg (hev x) (hev z) hc
    unfold Oper.wp
    simp only [execOp, hop, Sem.run_bind, h1, Result.andThen_ok, Sem.run_pure]
    exact hK _ _ h2
  case h_10 x hop =>
    split at hc
    case h_2 => simp at hc
    rename_i p hp
    simp at hc
    obtain ⟨rfl, rfl⟩ := hc
    obtain ⟨L, hL, hv⟩ := ptr?_ok (k := p.1) (off := p.2) hp (hev x)
    have hx := hev x
    rw [hv] at hx
    unfold Oper.wp
    simp only [execOp, hop, hv, Sem.run_pure]
    exact hK _ _ (Post.pure hh hx)
  case h_11 op t x z _ hop =>
    split at hc
    · rename_i p q hp hq
      cases hz : abin P op t p q with
      | none => simp [hz] at hc
      | some r =>
        simp [hz] at hc
        obtain ⟨rfl, rfl⟩ := hc
        have hx := hev x
        have hy := hev z
        rw [hp] at hx
        rw [hq] at hy
        have hpc : ∀ {i : IV} {v : Value}, ICells ρ i [v] → (∃ k off, i = .ptr k off) ∨ (∃ k off len, i = .sl k off len) ∨ PCells i = some [v] := by
          intro i v hi
          cases i
          case ptr k off => exact .inl ⟨k, off, rfl⟩
          case sl k off len => exact .inr (.inl ⟨k, off, len, rfl⟩)
          all_goals exact .inr (.inr hi)
        have bad : ∀ {i j : IV}, abin P op t i j = some r → (∀ k off, i ≠ .ptr k off) ∧ (∀ k off len, i ≠ .sl k off len) ∧ (∀ k off, j ≠ .ptr k off) ∧ (∀ k off len, j ≠ .sl k off len) := by
          intro i j hij
          unfold abin at hij
          refine ⟨?_, ?_, ?_, ?_⟩ <;> intros <;> rintro rfl <;> split at hij <;> simp [amount] at hij
          all_goals (split at hij <;> simp at hij)
        obtain ⟨b1, b2, b3, b4⟩ := bad hz
        have px : PCells p = some [a.eval x] := by
          rcases hpc (VRepr_sc.1 hx) with ⟨k, off, e⟩ | ⟨k, off, len, e⟩ | e
          · exact absurd e (b1 k off)
          · exact absurd e (b2 k off len)
          · exact e
        have py : PCells q = some [a.eval z] := by
          rcases hpc (VRepr_sc.1 hy) with ⟨k, off, e⟩ | ⟨k, off, len, e⟩ | e
          · exact absurd e (b3 k off)
          · exact absurd e (b4 k off len)
          · exact e
        obtain ⟨v, h1, h2⟩ := abin_sound w op t x z p q r _ _ hz px py
        exact val _ (by simp only [execOp, hop]) ⟨v, w, h1, Post.pure hh (VRepr_sc.2 (ICells_of_P h2))⟩
    · rename_i l m hp hq
      cases hz : aeqAgg P op t l m with
      | none => simp [hz] at hc
      | some r =>
        simp [hz] at hc
        obtain ⟨rfl, rfl⟩ := hc
        have hx := hev x
        have hy := hev z
        rw [hp] at hx
        rw [hq] at hy
        obtain ⟨xs, x1, x2⟩ := hx
        obtain ⟨ys, y1, y2⟩ := hy
        simp at x2 y2
        obtain ⟨v, h1, h2⟩ := aeqAgg_sound (w := w) (x := x) (y := z) x1 y1 hz
        rw [← x2, ← y2] at h1
        exact val _ (by simp only [execOp, hop]) ⟨v, w, h1, Post.pure hh (VRepr_sc.2 (ICells_of_P h2))⟩
    · simp at hc
  case h_12 op t x hop =>
    split at hc
    case h_2 => simp at hc
    rename_i p hp
    cases hz : aun op p with
    | none => simp [hz] at hc
    | some r =>
      simp [hz] at hc
      obtain ⟨rfl, rfl⟩ := hc
      have hx := one?_cells hp (hev x)
      have px : PCells p = some [a.eval x] := by cases p <;> first | exact hx | (simp [aun] at hz)
      obtain ⟨v, h1, h2⟩ := aun_sound (P := P) w op p r _ hz px
      exact val _ (by simp only [execOp, hop]) ⟨v, w, h1, Post.pure hh (VRepr_sc.2 (ICells_of_P h2))⟩
  case h_13 src dst x hop => exact val _ (by simp only [execOp, hop]) (aconvert_sound hh hg (hev x) hc)
  case h_14 t x hop => exact val _ (by simp only [execOp, hop]) (aarrayAt_sound hh (hev x) hc)
  case h_15 f first cap hop =>
    split at hc
    case h_2 => simp at hc
    rename_i l m hl hm
    simp at hc
    obtain ⟨rfl, rfl⟩ := hc
    refine val (Instr.makeFunc (.func f) (first.map a.eval) (cap.map a.eval)) (by simp only [execOp, hop]) ⟨_, w, rfl, Post.pure hh ?_⟩
    refine ⟨(first.toList.map a.eval), (cap.toList.map a.eval), by rw [← Array.toList_map, ← Array.toList_map, Array.toArray_toList, Array.toArray_toList], firsts_ok hl (F2_mapv hev _), ptrs_ok hm (F2_mapv hev _)⟩
  case h_16 t l c hop => exact val _ (by simp only [execOp, hop]) (amake_sound hh hun hB (hev l) (hev c) hc)
  case h_17 t x lo hi mx hop => exact val _ (by simp only [execOp, hop]) (aslice_sound hh hg (hev x) (OptR_map hev lo) (OptR_map hev hi) (OptR_map hev mx) hc)
  case h_18 t x f hop => exact val _ (by simp only [execOp, hop]) (afieldAddr_sound hh (hev x) hc)
  case h_19 t x f hop => exact val _ (by simp only [execOp, hop]) (afield_sound hh (hev x) hc)
  case h_20 t x i hop => exact val _ (by simp only [execOp, hop]) (aindexAddr_sound hh (hev x) (hev i) hc)
  case h_21 t x i hop => exact val _ (by simp only [execOp, hop]) (aindex_sound hh (hev x) (hev i) hc)
  case h_22 x i hop => exact val _ (by simp only [execOp, hop]) (aextract_sound hh (hev x) hc)
  case h_23 c hop =>
    obtain ⟨callee, args, ts⟩ := c
    simp only at hc
    split at hc
    · rename_i b
      obtain ⟨args⟩ := args
      obtain ⟨ts⟩ := ts
      have bi : ∀ (bb : Builtin) (s : Sem Value), b = bb → (∀ consts, builtin bb ts.toArray o.type consts (args.map a.eval).toArray = do pure (.value (← s))) → (∃ r w', s.run P w = .ok r w' ∧ Post B ρ w h F y upd r w') → o.wp P a w K Q := by
        intro bb s hb hs hr
        subst hb
        refine val s ?_ hr
        simp only [execOp, hop, resolve, invoke, pure_bind, List.map_toArray]
        exact hs _
      simp only [abuiltin] at hc
      split at hc
      · rename_i t x hargs
        have hx : ∃ x0, args = [x0] ∧ ev x0 = x := by
          match args, hargs with
          | [x0], e => simp at e; exact ⟨x0, rfl, e⟩
        obtain ⟨x0, rfl, rfl⟩ := hx
        exact bi .len _ rfl (fun _ => rfl) (alen_sound hh (hev x0) hc)
      · rename_i x z hargs
        have hx : ∃ x0 z0, args = [x0, z0] ∧ ev x0 = x ∧ ev z0 = z := by
          match args, hargs with
          | [x0, z0], e => simp at e; exact ⟨x0, z0, rfl, e.1, e.2⟩
        obtain ⟨x0, z0, rfl, rfl, rfl⟩ := hx
        exact bi .max _ rfl (fun _ => rfl) (amax_sound hh (hev x0) (hev z0) hc)
      · rename_i x z hargs
        have hx : ∃ x0 z0, args = [x0, z0] ∧ ev x0 = x ∧ ev z0 = z := by
          match args, hargs with
          | [x0, z0], e => simp at e; exact ⟨x0, z0, rfl, e.1, e.2⟩
        obtain ⟨x0, z0, rfl, rfl, rfl⟩ := hx
        exact bi .min _ rfl (fun _ => rfl) (amin_sound hh (hev x0) (hev z0) hc)
      · rename_i t t' x z hargs
        have hx : ∃ x0 z0, args = [x0, z0] ∧ ev x0 = x ∧ ev z0 = z := by
          match args, hargs with
          | [x0, z0], e => simp at e; exact ⟨x0, z0, rfl, e.1, e.2⟩
        obtain ⟨x0, z0, rfl, rfl, rfl⟩ := hx
        split at hc
        case isFalse => simp at hc
        rename_i htt
        subst htt
        exact bi .append _ rfl (fun _ => rfl) (aappend_sound hh hg hun hB (hev x0) (hev z0) hc)
      · rename_i t t' x z hargs
        have hx : ∃ x0 z0, args = [x0, z0] ∧ ev x0 = x ∧ ev z0 = z := by
          match args, hargs with
          | [x0, z0], e => simp at e; exact ⟨x0, z0, rfl, e.1, e.2⟩
        obtain ⟨x0, z0, rfl, rfl, rfl⟩ := hx
        exact bi .copy _ rfl (fun _ => rfl) (acopy_sound hh hg (hev x0) (hev z0) hc)
      · simp at hc
    · rename_i f
      split at hc
      case h_2 => simp at hc
      rename_i g first hf
      have hfv := hev f
      rw [hf] at hfv
      obtain ⟨fs, cs, h1, h2, h3⟩ := hfv
      have hcs : cs = [] := by
        match cs, h3 with
        | [], _ => rfl
      subst hcs
      obtain ⟨hcal, hcalls⟩ := acall_sound hΓ (F := F) hh hg hF hB (F2.append (F2_vals h2) (F2_mapv hev args.toList)) hc
      unfold Oper.wp
      have hexec : (execOp a.eval o).run P w = .ok (.enter g (fs ++ args.toList.map a.eval).toArray) w := by
        simp only [execOp, hop, resolve, h1, Deferred.ofValue, Sem.run_bind, Sem.run_pure, Result.andThen_ok, invoke]
        have : (fs.toArray ++ Array.map a.eval args ++ [].toArray) = (fs ++ args.toList.map a.eval).toArray := by simp
        rw [this, run_callFunc hcal]
      rw [hexec]
      show Calls P g _ w _
      refine hcalls.mono ?_
      rintro e w' ⟨v, rfl, hp⟩
      exact hK v w' hp
    · simp at hc
  case h_24 => simp at hc
end
end Go.Ev
