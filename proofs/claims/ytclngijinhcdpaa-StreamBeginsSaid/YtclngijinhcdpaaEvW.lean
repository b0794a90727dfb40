/- Arguments that are structs, opened field by field. Own work; no statement of the seat is proved here. -/
import Derived.Test.YtclngijinhcdpaaEvN
namespace Go.Ev
open Go.ChangeShapes Go.WideShapes Go.RowKit
section
variable {H : Type} {enc : TypeId × Value → H} {P : Program} {W : World}
/-- Cells of a type stand for items of which R holds, whatever is read there (and each weight is at most N). -/
def Opens (enc : TypeId × Value → H) (P : Program) (W : World) (N : Nat) (t : TypeId) (R : List IV → Prop) : Prop :=
  ∀ (fuel : Nat) (cs : List Value) (x : DataW H × List MemPlace), DataW.trod enc P W 0 (fun _ => true) true fuel t cs = some x → (∀ y ∈ x.1.weights P t, y ≤ N) → ∃ its, R its ∧ DLs W its cs
theorem DLs_append : ∀ {l m : List IV} {a b : List Value}, DLs W l a → DLs W m b → DLs W (l ++ m) (a ++ b)
  | [], _, _, _, h, h' => by rw [show _ = [] from h]; exact h'
  | _ :: _, _, _, _, ⟨x, y, e, h1, h2⟩, h' => ⟨x, y ++ _, by rw [e, List.append_assoc], h1, DLs_append h2 h'⟩
theorem DLs_one {i : IV} {vs : List Value} (h : DCells W i vs) : DLs W [i] vs := ⟨vs, [], by simp, h, rfl⟩
theorem opens_d8 {N : Nat} {t e : TypeId} (ht : P.underlying t = some (.slice e)) (he : P.underlying e = some (.int .u8)) (hce : P.cellsOf e = 1) (hby : P.bytesOf e = 1) :
    Opens enc P W N t (fun its => ∃ l : List (BitVec 8), its = [.d8 l] ∧ l.length ≤ N) := by
  intro fuel cs x hf hN
  rcases open_ints ht he hce hf with ⟨hcs, hx⟩ | ⟨a, len, cap, zs, hcs, _, hl, hm, hz, hx, hcell, hwz⟩
  · subst hcs
    exact ⟨[.d8 []], ⟨[], rfl, by simp⟩, DLs_one ⟨_, rfl, .inr ⟨rfl, rfl, none, rfl⟩⟩⟩
  · subst hcs hx
    simp at hz
    obtain ⟨l, h1, h2⟩ := bytes_of hwz
    have hlen : (l.take len).length = len := by simp; omega
    have hcell0 : ∀ i u, ((l.take len).map byteVal)[i]? = some u → W.cell? (a.add i) = some u := by
      intro i u hu
      rw [List.getElem?_map, List.getElem?_take] at hu
      split at hu
      case isFalse => simp at hu
      have hi : i < zs.length := by omega
      rw [hcell i hi]
      have hg : (zs.map (Value.int .u8))[i]? = (l.map byteVal)[i]? := by rw [h1]
      rw [List.getElem?_map, List.getElem?_map, List.getElem?_eq_getElem hi] at hg
      rw [← List.getElem?_map] at hu
      simp only [List.getElem?_map] at hu
      rw [← hg] at hu
      simp at hu
      subst hu
      simp [List.getD, List.getElem?_eq_getElem hi]
    refine ⟨[.d8 (l.take len)], ⟨l.take len, rfl, ?_⟩, DLs_one ⟨_, rfl, ?_⟩⟩
    · have h3 := hN (((lits (H := H) .u8 (zs.take len)).length + (lits (H := H) .u8 (zs.drop len)).length) * P.bytesOf e) (by simp [DataW.weights, ht])
      simp only [hby, Nat.mul_one, lits, List.length_map, List.length_take, List.length_drop] at h3
      omega
    rw [hlen]
    by_cases h0 : cap = 0
    · subst h0
      have : len = 0 := by omega
      subst this
      exact .inr ⟨rfl, by simp, some a, rfl⟩
    · have hc0 := hcell 0 (by omega)
      obtain ⟨hb, hs⟩ := cell_addr hc0
      obtain ⟨blk, off, sub⟩ := a
      simp [Addr.add] at hb hs
      subst hs
      exact .inl ⟨blk, off, cap, rfl, hl, hb, fun i u hu => (congrArg W.cell? (Addr_add_at blk off i)).symm.trans (hcell0 i u hu)⟩
theorem opens_u32 {N : Nat} {t : TypeId} (ht : P.underlying t = some (.int .u32)) : Opens enc P W N t (fun its => ∃ x : BitVec 32, its = [.u32 x]) := by
  intro fuel cs x hf _
  obtain ⟨z, hz, _, hw⟩ := DataW.trod_int ht hf
  obtain ⟨q, rfl⟩ := wf_u32 hw
  subst hz
  exact ⟨[.u32 q], ⟨q, rfl⟩, DLs_one rfl⟩
theorem opens_u16 {N : Nat} {t : TypeId} (ht : P.underlying t = some (.int .u16)) : Opens enc P W N t (fun its => ∃ x : BitVec 16, its = [.u16 x]) := by
  intro fuel cs x hf _
  obtain ⟨z, hz, _, hw⟩ := DataW.trod_int ht hf
  obtain ⟨h1, h2⟩ := wf_u16 hw
  subst hz
  refine ⟨[.u16 (BitVec.ofInt 16 z)], ⟨_, rfl⟩, DLs_one ?_⟩
  have : ((BitVec.ofInt 16 z).toNat : Int) = z := by rw [BitVec.toNat_ofInt]; omega
  show PCells _ = _
  simp only [PCells, half16, this]
theorem opens_num {N : Nat} {t e : TypeId} (ht : P.underlying t = some (.array 4 e)) (he : P.underlying e = some (.int .u64)) (hce : P.cellsOf e = 1) (hct : P.cellsOf t = 4) :
    Opens enc P W N t (fun its => ∃ a : N4, its = [.n4 a]) := by
  intro fuel cs x hf _
  obtain ⟨a, rfl⟩ := num_cells ht he hce hct hf
  exact ⟨[.n4 a], ⟨a, rfl⟩, DLs_one rfl⟩
/-- Fields one behind the other, from cell o on: where they end. -/
def offs (P : Program) : List Field → Nat → Option Nat
  | [], o => some o
  | f :: r, o => if f.offset = o then offs P r (o + P.cellsOf f.type) else none
theorem opens_fields {N n e : Nat} {cs : List Value} : ∀ (fs : List Field) (Rs : List (List IV → Prop)) (o : Nat) (xs : List (DataW H × List MemPlace)), F2 (fun f R => Opens enc P W N (Field.type f) R) fs Rs → offs P fs o = some e → cs.length = e →
    (∀ (i : Nat) (f : Field), fs[i]? = some f → DataW.trod enc P W 0 (fun _ => true) true n f.type ((cs.drop f.offset).take (P.cellsOf f.type)) = xs[i]?) → xs.length = fs.length → (∀ y ∈ DataW.weightsEach P (fs.map (·.type)) (xs.map (·.1)), y ≤ N) →
    ∃ itss : List (List IV), F2 (fun (R : List IV → Prop) its => R its) Rs itss ∧ DLs W itss.flatten (cs.drop o)
  | [], [], o, xs, _, ho, hl, _, _, _ => by
    simp [offs] at ho
    subst ho
    refine ⟨[], trivial, ?_⟩
    rw [← hl, List.drop_length]
    rfl
  | f :: fs, R :: Rs, o, [], _, _, _, _, hx, _ => by simp at hx
  | f :: fs, R :: Rs, o, x :: xs, ⟨h0, h1⟩, ho, hl, ht, hx, hN => by
    simp only [offs] at ho
    split at ho
    case isFalse => simp at ho
    rename_i hfo
    have t0 := ht 0 f rfl
    simp only [List.getElem?_cons_zero] at t0
    obtain ⟨its, hR, hD⟩ := h0 n _ x t0 fun y hy => hN y (by simp only [List.map_cons, DataW.weightsEach, List.mem_append]; exact .inl hy)
    obtain ⟨itss, hRs, hDs⟩ := opens_fields fs Rs _ xs h1 ho hl (fun i g hg => by have := ht (i + 1) g (by simpa using hg); simpa using this) (by simpa using hx)
      fun y hy => hN y (by simp only [List.map_cons, DataW.weightsEach, List.mem_append]; exact .inr hy)
    refine ⟨its :: itss, ⟨hR, hRs⟩, ?_⟩
    rw [List.flatten_cons]
    have e1 : cs.drop o = (cs.drop o).take (P.cellsOf f.type) ++ cs.drop (o + P.cellsOf f.type) := by
      rw [← List.drop_drop, List.take_append_drop]
    rw [e1]
    rw [hfo] at hD
    exact DLs_append hD hDs
  | [], _ :: _, _, _, h, _, _, _, _, _ => h.elim
  | _ :: _, [], _, _, h, _, _, _, _, _ => h.elim
theorem opens_struct {N e : Nat} {t : TypeId} {fs : Array Field} {Rs : List (List IV → Prop)} (ht : P.underlying t = some (.struct fs)) (hRs : F2 (fun f R => Opens enc P W N (Field.type f) R) fs.toList Rs) (ho : offs P fs.toList 0 = some e) (he : P.cellsOf t = e) :
    Opens enc P W N t (fun its => ∃ itss, F2 (fun (R : List IV → Prop) its => R its) Rs itss ∧ its = itss.flatten) := by
  intro fuel cs x hf hN
  obtain ⟨xs, n, _, rfl, hl, hn, hx⟩ := DataW.trod_struct ht hf
  obtain ⟨itss, h1, h2⟩ := opens_fields fs.toList Rs 0 xs hRs ho (by rw [hl, he]) (fun i f hi => hx i f (by simpa using hi)) (by simpa using hn) (fun y hy => hN y (by simpa [DataW.weights, ht] using hy))
  exact ⟨itss.flatten, ⟨itss, h1, rfl⟩, by simpa using h2⟩
def isSt (P : Program) (t : TypeId) : Bool :=
  match P.underlying t with
  | some (.struct _) => true
  | _ => false
def fieldsOf (P : Program) (t : TypeId) : List Field :=
  match P.underlying t with
  | some (.struct fs) => fs.toList
  | _ => []
theorem isSt_ok {P : Program} {t : TypeId} (h : isSt P t = true) : ∃ fs : Array Field, P.underlying t = some (.struct fs) ∧ fieldsOf P t = fs.toList := by
  unfold isSt at h
  split at h
  · rename_i fs hfs
    exact ⟨fs, hfs, by unfold fieldsOf; rw [hfs]⟩
  · simp at h
theorem F2_map_type {Q : TypeId → (List IV → Prop) → Prop} : ∀ {fs : List Field} {ts : List TypeId} {Rs : List (List IV → Prop)}, fs.map (·.type) = ts → F2 Q ts Rs → F2 (fun f R => Q (Field.type f) R) fs Rs
  | [], _, Rs, h, h2 => by
    subst h
    match Rs, h2 with
    | [], _ => trivial
  | f :: fs, _, Rs, h, h2 => by
    subst h
    match Rs, h2 with
    | R :: Rs, ⟨a, b⟩ => exact ⟨a, F2_map_type rfl b⟩
theorem opens_st {N e : Nat} {t : TypeId} {ts : List TypeId} {Rs : List (List IV → Prop)} (hs : isSt P t = true) (hts : (fieldsOf P t).map (·.type) = ts) (ho : offs P (fieldsOf P t) 0 = some e) (he : P.cellsOf t = e) (hRs : F2 (fun t R => Opens enc P W N t R) ts Rs) :
    Opens enc P W N t (fun its => ∃ itss, F2 (fun (R : List IV → Prop) its => R its) Rs itss ∧ its = itss.flatten) := by
  obtain ⟨fs, h1, h2⟩ := isSt_ok hs
  rw [h2] at hts ho
  exact opens_struct h1 (F2_map_type hts hRs) ho he
theorem open_st {N e base : Nat} {t : TypeId} {v : Value} {d : DataW H} {ps : List MemPlace} {ts : List TypeId} {Rs : List (List IV → Prop)} (hs : isSt P t = true) (hts : (fieldsOf P t).map (·.type) = ts) (ho : offs P (fieldsOf P t) 0 = some e) (he : P.cellsOf t = e)
    (hRs : F2 (fun t R => Opens enc P W N t R) ts Rs) (hval : Value.okWide P W .any base t v) (hd : DataW.Trod enc P W 0 (fun _ => true) true t v d ps) (hN : ∀ y ∈ d.weights P t, y ≤ N) :
    ∃ itss, F2 (fun (R : List IV → Prop) its => R its) Rs itss ∧ DV W (.val true itss.flatten) v := by
  obtain ⟨fs, h1, h2⟩ := isSt_ok hs
  obtain ⟨cs, rfl, _⟩ := okWide_struct h1 hval
  obtain ⟨fuel, hf⟩ := hd
  obtain ⟨its, ⟨itss, h3, rfl⟩, h4⟩ := opens_st hs hts ho he hRs fuel _ _ hf hN
  exact ⟨itss, h3, _, h4, by simp [Value.cells]⟩
/-- A struct that comes in. -/
theorem open_struct {N e base : Nat} {t : TypeId} {v : Value} {d : DataW H} {ps : List MemPlace} {fs : Array Field} {Rs : List (List IV → Prop)} (ht : P.underlying t = some (.struct fs)) (hRs : F2 (fun f R => Opens enc P W N (Field.type f) R) fs.toList Rs) (ho : offs P fs.toList 0 = some e) (he : P.cellsOf t = e)
    (hval : Value.okWide P W .any base t v) (hd : DataW.Trod enc P W 0 (fun _ => true) true t v d ps) (hN : ∀ y ∈ d.weights P t, y ≤ N) :
    ∃ itss, F2 (fun (R : List IV → Prop) its => R its) Rs itss ∧ DV W (.val true itss.flatten) v := by
  obtain ⟨cs, rfl, _⟩ := okWide_struct ht hval
  obtain ⟨fuel, hf⟩ := hd
  obtain ⟨its, ⟨itss, h1, rfl⟩, h2⟩ := opens_struct ht hRs ho he fuel _ _ hf hN
  exact ⟨itss, h1, _, h2, by simp [Value.cells]⟩
end
end Go.Ev
