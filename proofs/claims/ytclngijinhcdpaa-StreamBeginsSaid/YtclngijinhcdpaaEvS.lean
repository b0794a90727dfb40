/- Contracts over numbers out of contracts over lists of digits. Own work; no statement of the seat is proved here. -/
import Derived.Test.YtclngijinhcdpaaEvR
namespace Go.Ev
open Go.RowKit

def nv : List Int → Nat
  | [] => 0
  | d :: r => d.toNat + 256 * nv r

/-- Digits in place of numbers. -/
def exI : IV → IV
  | .dN x => .dI (dg x)
  | i => i
def exA : AV → AV
  | .val g l => .val g (l.map exI)
  | .tup l => .tup (l.map fun p => (p.1, p.2.map exI))
  | x => x

theorem DCells_ex {w : World} {i : IV} {vs : List Value} (h : DCells w i vs) : DCells w (exI i) vs := by
  cases i <;> first | exact h
theorem DLs_ex {w : World} : ∀ {l : List IV} {vs : List Value}, DLs w l vs → DLs w (l.map exI) vs
  | [], _, h => h
  | _ :: _, _, ⟨a, b, e, h1, h2⟩ => ⟨a, b, e, DCells_ex h1, DLs_ex h2⟩
theorem DV_ex {w : World} {x : AV} {v : Value} (h : DV w x v) : DV w (exA x) v := by
  cases x <;> first | exact h | skip
  obtain ⟨vs, h1, h2⟩ := h
  exact ⟨vs, DLs_ex h1, h2⟩
theorem F2_DV_ex {w : World} : ∀ {l : List AV} {vs : List Value}, F2 (DV w) l vs → F2 (DV w) (l.map exA) vs
  | [], [], _ => trivial
  | _ :: _, _ :: _, ⟨h1, h2⟩ => ⟨DV_ex h1, F2_DV_ex h2⟩

/-- The blocks of results are the same ones. -/
def BlkSame (a b : Nat × Blk) : Prop := a.1 = b.1 ∧ (a.2 = b.2 ∨ ∃ x o, a.2 = ⟨o, [.vi (dg x).length (dg x)]⟩ ∧ b.2 = ⟨o, [.vd x]⟩)
theorem ofIs_ex : ∀ (l : List IV) (F : Nat), (ofIs F (l.map exI)).1 = (ofIs F l).1 ∧ F2 BlkSame (ofIs F (l.map exI)).2.1 (ofIs F l).2.1 ∧ (ofIs F (l.map exI)).2.2 = (ofIs F l).2.2
  | [], _ => ⟨rfl, trivial, rfl⟩
  | i :: r, F => by
    obtain ⟨a1, a2, a3⟩ := ofIs_ex r F
    obtain ⟨b1, b2, b3⟩ := ofIs_ex r (F + 1)
    cases i <;> simp only [List.map_cons, exI, ofIs]
    all_goals first
      | exact ⟨by rw [a1], a2, a3⟩
      | exact ⟨by rw [b1], ⟨⟨rfl, .inl rfl⟩, b2⟩, b3⟩
      | exact ⟨by rw [b1], ⟨⟨rfl, .inr ⟨_, _, rfl, rfl⟩⟩, b2⟩, b3⟩
theorem ofTs_ex : ∀ (l : List (Bool × List IV)) (F : Nat), (ofTs F (l.map fun p => (p.1, p.2.map exI))).1 = (ofTs F l).1 ∧ F2 BlkSame (ofTs F (l.map fun p => (p.1, p.2.map exI))).2.1 (ofTs F l).2.1 ∧ (ofTs F (l.map fun p => (p.1, p.2.map exI))).2.2 = (ofTs F l).2.2
  | [], _ => ⟨rfl, trivial, rfl⟩
  | p :: r, F => by
    obtain ⟨a1, a2, a3⟩ := ofIs_ex p.2 F
    obtain ⟨b1, b2, b3⟩ := ofTs_ex r (ofIs F p.2).2.2
    simp only [List.map_cons, ofTs]
    rw [a1, a3]
    exact ⟨by rw [b1], F2.append a2 b2, b3⟩
theorem ofA_ex (x : AV) (F : Nat) : (ofA F (exA x)).1 = (ofA F x).1 ∧ F2 BlkSame (ofA F (exA x)).2.1 (ofA F x).2.1 ∧ (ofA F (exA x)).2.2 = (ofA F x).2.2 := by
  cases x
  case val g l =>
    obtain ⟨a1, a2, a3⟩ := ofIs_ex l F
    exact ⟨by simp only [exA, ofA, a1], a2, a3⟩
  case tup l =>
    obtain ⟨a1, a2, a3⟩ := ofTs_ex l F
    exact ⟨by simp only [exA, ofA, a1], a2, a3⟩
  all_goals exact ⟨rfl, trivial, rfl⟩

theorem same_cells {x : Nat} {ρ : Nat → Pl} {vs : List Value} (h : LCells ρ [.vi (dg x).length (dg x)] vs) : LCells ρ [.vd x] vs := by
  have := LCells_of_single h
  simp only [ICells, PCells, if_true, Option.some.injEq] at this
  subst this
  exact LCells_single rfl
def SameB (a b : Option Blk) : Prop := a = b ∨ ∃ x o, a = some ⟨o, [.vi (dg x).length (dg x)]⟩ ∧ b = some ⟨o, [.vd x]⟩
theorem applyU_same : ∀ {a b : List (Nat × Blk)} {h h' : Nat → Option Blk}, F2 BlkSame a b → (∀ k, SameB (h k) (h' k)) → ∀ k, SameB (applyU h (mkU a) k) (applyU h' (mkU b) k)
  | [], [], h, h', _, hs, k => hs k
  | p :: a, q :: b, h, h', ⟨h1, h2⟩, hs, k => by
    refine applyU_same (a := a) (b := b) h2 (fun j => ?_) k
    obtain ⟨e, e2⟩ := h1
    simp only [updh]
    rw [e]
    split
    · rcases e2 with e2 | ⟨x, o, e2, e3⟩
      · rw [e2]; exact .inl rfl
      · rw [e2, e3]; exact .inr ⟨x, o, rfl, rfl⟩
    · exact hs j
theorem HOk_same {B : Nat} {ρ : Nat → Pl} {w : World} {h h' : Nat → Option Blk} (hh : HOk B ρ w h) (hs : ∀ k, SameB (h k) (h' k)) : HOk B ρ w h' := by
  refine ⟨fun k b hk => ?_, fun k k' b b' hk hk' hne ho L L' hL hL' => ?_⟩
  · rcases hs k with e | ⟨x, o, e1, e2⟩
    · exact hh.blk k b (e.trans hk)
    · rw [e2] at hk
      simp at hk
      subst hk
      have := hh.blk k _ e1
      unfold BlkOk at this ⊢
      split
      · rename_i q; simp only [q] at this
      · rename_i q; simp only [q] at this; exact same_cells this
      · rename_i L q
        simp only [q] at this
        obtain ⟨vs, t1, t2, t3⟩ := this
        exact ⟨vs, same_cells t1, t2, t3⟩
  · have own : ∀ {k : Nat} {b : Blk}, h' k = some b → ∃ c, h k = some c ∧ c.own = b.own := by
      intro k b hk
      rcases hs k with e | ⟨x, o, e1, e2⟩
      · exact ⟨b, e.trans hk, rfl⟩
      · rw [e2] at hk; simp at hk; subst hk; exact ⟨_, e1, rfl⟩
    obtain ⟨c, h1, h2⟩ := own hk
    obtain ⟨c', h1', _⟩ := own hk'
    exact hh.inj k k' c c' h1 h1' hne (h2.trans ho) L L' hL hL'
theorem ResOk_ex {B : Nat} {w : World} {r : AV} {v : Value} (h : ResOk B w (exA r) v) : ResOk B w r v := by
  intro F
  obtain ⟨ρ, h1, h2, h3, h4⟩ := h F
  obtain ⟨a1, a2, a3⟩ := ofA_ex r F
  rw [a1] at h3
  rw [a3] at h1
  exact ⟨ρ, h1, h2, h3, HOk_same h4 fun k => applyU_same a2 (fun _ => .inl rfl) k⟩

theorem FnS_use {P : Program} {f : FuncId} {spec : List AV → Option (AV × List Prop)} (h : FnS P f spec) {ds : List AV} {r : AV} {cs : List Prop} (hs : spec ds = some (r, cs)) (hc : AllP cs)
    (w : World) (vals : List Value) (hv : F2 (DV w) ds vals) : Calls P f vals.toArray w fun e w' => ∃ v, e = .returned v ∧ Below w.heap.size w w' ∧ ResOk w.heap.size w' r v :=
  h ds r (by simp only [hs, hc, if_true]) w vals hv
/-- A contract over numbers, from one over digits. -/
theorem FnS_num {P : Program} {f : FuncId} {spec specN : List AV → Option (AV × List Prop)} (h : FnS P f spec)
    (hs : ∀ ds r cs, specN ds = some (r, cs) → AllP cs → ∃ cs', spec (ds.map exA) = some (exA r, cs') ∧ AllP cs') : FnS P f specN :=
  FnS_intro fun ds r cs hd hc w vals hv => by
    obtain ⟨cs', h1, h2⟩ := hs ds r cs hd hc
    refine (FnS_use h h1 h2 w vals (F2_DV_ex hv)).mono ?_
    rintro e w' ⟨v, q1, q2, q3⟩
    exact ⟨v, q1, q2, ResOk_ex q3⟩

/-- The same contract, which takes numbers, too. -/
theorem FnS_exA {P : Program} {f : FuncId} {spec : List AV → Option (AV × List Prop)} (h : FnS P f spec) : FnS P f (fun ds => spec (ds.map exA)) :=
  FnS_intro fun _ _ _ hd hc w vals hv => FnS_use h hd hc w vals (F2_DV_ex hv)
/-- Numbers in place of digits, where the digits are a number's. -/
def numI : IV → IV × List Prop
  | .dI l => (.dN (nv l), [l = dg (nv l)])
  | i => (i, [])
def numL : List IV → List IV × List Prop
  | [] => ([], [])
  | i :: r => ((numI i).1 :: (numL r).1, (numI i).2 ++ (numL r).2)
def numA : AV → AV × List Prop
  | .val g l => (.val g (numL l).1, (numL l).2)
  | x => (x, [])
def numAs : List AV → List AV × List Prop
  | [] => ([], [])
  | x :: r => ((numA x).1 :: (numAs r).1, (numA x).2 ++ (numAs r).2)
theorem DCells_num {w : World} {i : IV} {vs : List Value} (h : DCells w i vs) (hc : AllP (numI i).2) : DCells w (numI i).1 vs := by
  cases i <;> first | exact h | skip
  rename_i l
  have e : l = dg (nv l) := hc.1
  show ∃ v, vs = [v] ∧ RdSl w (dg (nv l)).length ((dg (nv l)).map intVal) v
  rw [← e]
  exact h
theorem DLs_num {w : World} : ∀ {l : List IV} {vs : List Value}, DLs w l vs → AllP (numL l).2 → DLs w (numL l).1 vs
  | [], _, h, _ => h
  | _ :: _, _, ⟨a, b, e, h1, h2⟩, hc => ⟨a, b, e, DCells_num h1 (AllP_append hc).1, DLs_num h2 (AllP_append hc).2⟩
theorem DV_num {w : World} {x : AV} {v : Value} (h : DV w x v) (hc : AllP (numA x).2) : DV w (numA x).1 v := by
  cases x <;> first | exact h | skip
  obtain ⟨vs, h1, h2⟩ := h
  exact ⟨vs, DLs_num h1 hc, h2⟩
theorem F2_DV_num {w : World} : ∀ {l : List AV} {vs : List Value}, F2 (DV w) l vs → AllP (numAs l).2 → F2 (DV w) (numAs l).1 vs
  | [], [], _, _ => trivial
  | _ :: _, _ :: _, ⟨h1, h2⟩, hc => ⟨DV_num h1 (AllP_append hc).1, F2_DV_num h2 (AllP_append hc).2⟩
/-- The same contract, which takes digits, too. -/
def orD (spec : List AV → Option (AV × List Prop)) (ds : List AV) : Option (AV × List Prop) :=
  match spec (numAs ds).1 with
  | some (r, cs) => some (r, cs ++ (numAs ds).2)
  | none => none
theorem FnS_orD {P : Program} {f : FuncId} {spec : List AV → Option (AV × List Prop)} (h : FnS P f spec) : FnS P f (orD spec) :=
  FnS_intro fun ds r cs hd hc w vals hv => by
    unfold orD at hd
    split at hd
    case h_2 => simp at hd
    rename_i r' cs' hs
    simp at hd
    obtain ⟨rfl, rfl⟩ := hd
    obtain ⟨c1, c2⟩ := AllP_append hc
    exact FnS_use h hs c1 w vals (F2_DV_num hv c2)
end Go.Ev
