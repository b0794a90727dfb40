/- Texts put together: EvS SpG SpH SpA SpB SpC SpD SpE. Own work. -/
import Derived.Test.YtlgiaglbdifkpaaGreatDoorMgcl
/- Contracts over numbers out of contracts over lists of digits. Own work; no statement of the seat is proved here. -/
namespace Go.Ev
open Go.RowKit

def nv : List Int → Nat
  | [] => 0
  | d :: r => d.toNat + 256 * nv r

/-- Digits in place of numbers. -/
def exI : IV → IV
  | .dN x => .dI (dg x)
  | i => i
def exA : AV → AV
  | .val g l => .val g (l.map exI)
  | .tup l => .tup (l.map fun p => (p.1, p.2.map exI))
  | x => x

theorem DCells_ex {w : World} {i : IV} {vs : List Value} (h : DCells w i vs) : DCells w (exI i) vs := by
  cases i <;> first | exact h
theorem DLs_ex {w : World} : ∀ {l : List IV} {vs : List Value}, DLs w l vs → DLs w (l.map exI) vs
  | [], _, h => h
  | _ :: _, _, ⟨a, b, e, h1, h2⟩ => ⟨a, b, e, DCells_ex h1, DLs_ex h2⟩
theorem DV_ex {w : World} {x : AV} {v : Value} (h : DV w x v) : DV w (exA x) v := by
  cases x <;> first | exact h | skip
  obtain ⟨vs, h1, h2⟩ := h
  exact ⟨vs, DLs_ex h1, h2⟩
theorem F2_DV_ex {w : World} : ∀ {l : List AV} {vs : List Value}, F2 (DV w) l vs → F2 (DV w) (l.map exA) vs
  | [], [], _ => trivial
  | _ :: _, _ :: _, ⟨h1, h2⟩ => ⟨DV_ex h1, F2_DV_ex h2⟩

/-- The blocks of results are the same ones. -/
def BlkSame (a b : Nat × Blk) : Prop := a.1 = b.1 ∧ (a.2 = b.2 ∨ ∃ x o, a.2 = ⟨o, [.vi (dg x).length (dg x)]⟩ ∧ b.2 = ⟨o, [.vd x]⟩)
theorem ofIs_ex : ∀ (l : List IV) (F : Nat), (ofIs F (l.map exI)).1 = (ofIs F l).1 ∧ F2 BlkSame (ofIs F (l.map exI)).2.1 (ofIs F l).2.1 ∧ (ofIs F (l.map exI)).2.2 = (ofIs F l).2.2
  | [], _ => ⟨rfl, trivial, rfl⟩
  | i :: r, F => by
    obtain ⟨a1, a2, a3⟩ := ofIs_ex r F
    obtain ⟨b1, b2, b3⟩ := ofIs_ex r (F + 1)
    cases i <;> simp only [List.map_cons, exI, ofIs]
    all_goals first
      | exact ⟨by rw [a1], a2, a3⟩
      | exact ⟨by rw [b1], ⟨⟨rfl, .inl rfl⟩, b2⟩, b3⟩
      | exact ⟨by rw [b1], ⟨⟨rfl, .inr ⟨_, _, rfl, rfl⟩⟩, b2⟩, b3⟩
theorem ofTs_ex : ∀ (l : List (Bool × List IV)) (F : Nat), (ofTs F (l.map fun p => (p.1, p.2.map exI))).1 = (ofTs F l).1 ∧ F2 BlkSame (ofTs F (l.map fun p => (p.1, p.2.map exI))).2.1 (ofTs F l).2.1 ∧ (ofTs F (l.map fun p => (p.1, p.2.map exI))).2.2 = (ofTs F l).2.2
  | [], _ => ⟨rfl, trivial, rfl⟩
  | p :: r, F => by
    obtain ⟨a1, a2, a3⟩ := ofIs_ex p.2 F
    obtain ⟨b1, b2, b3⟩ := ofTs_ex r (ofIs F p.2).2.2
    simp only [List.map_cons, ofTs]
    rw [a1, a3]
    exact ⟨by rw [b1], F2.append a2 b2, b3⟩
theorem ofA_ex (x : AV) (F : Nat) : (ofA F (exA x)).1 = (ofA F x).1 ∧ F2 BlkSame (ofA F (exA x)).2.1 (ofA F x).2.1 ∧ (ofA F (exA x)).2.2 = (ofA F x).2.2 := by
  cases x
  case val g l =>
    obtain ⟨a1, a2, a3⟩ := ofIs_ex l F
    exact ⟨by simp only [exA, ofA, a1], a2, a3⟩
  case tup l =>
    obtain ⟨a1, a2, a3⟩ := ofTs_ex l F
    exact ⟨by simp only [exA, ofA, a1], a2, a3⟩
  all_goals exact ⟨rfl, trivial, rfl⟩

theorem same_cells {x : Nat} {ρ : Nat → Pl} {vs : List Value} (h : LCells ρ [.vi (dg x).length (dg x)] vs) : LCells ρ [.vd x] vs := by
  have := LCells_of_single h
  simp only [ICells, PCells, if_true, Option.some.injEq] at this
  subst this
  exact LCells_single rfl
def SameB (a b : Option Blk) : Prop := a = b ∨ ∃ x o, a = some ⟨o, [.vi (dg x).length (dg x)]⟩ ∧ b = some ⟨o, [.vd x]⟩
theorem applyU_same : ∀ {a b : List (Nat × Blk)} {h h' : Nat → Option Blk}, F2 BlkSame a b → (∀ k, SameB (h k) (h' k)) → ∀ k, SameB (applyU h (mkU a) k) (applyU h' (mkU b) k)
  | [], [], h, h', _, hs, k => hs k
  | p :: a, q :: b, h, h', ⟨h1, h2⟩, hs, k => by
    refine applyU_same (a := a) (b := b) h2 (fun j => ?_) k
    obtain ⟨e, e2⟩ := h1
    simp only [updh]
    rw [e]
    split
    · rcases e2 with e2 | ⟨x, o, e2, e3⟩
      · rw [e2]; exact .inl rfl
      · rw [e2, e3]; exact .inr ⟨x, o, rfl, rfl⟩
    · exact hs j
theorem HOk_same {B : Nat} {ρ : Nat → Pl} {w : World} {h h' : Nat → Option Blk} (hh : HOk B ρ w h) (hs : ∀ k, SameB (h k) (h' k)) : HOk B ρ w h' := by
  refine ⟨fun k b hk => ?_, fun k k' b b' hk hk' hne ho L L' hL hL' => ?_⟩
  · rcases hs k with e | ⟨x, o, e1, e2⟩
    · exact hh.blk k b (e.trans hk)
    · rw [e2] at hk
      simp at hk
      subst hk
      have := hh.blk k _ e1
      unfold BlkOk at this ⊢
      split
      · rename_i q; simp only [q] at this
      · rename_i q; simp only [q] at this; exact same_cells this
      · rename_i L q
        simp only [q] at this
        obtain ⟨vs, t1, t2, t3⟩ := this
        exact ⟨vs, same_cells t1, t2, t3⟩
  · have own : ∀ {k : Nat} {b : Blk}, h' k = some b → ∃ c, h k = some c ∧ c.own = b.own := by
      intro k b hk
      rcases hs k with e | ⟨x, o, e1, e2⟩
      · exact ⟨b, e.trans hk, rfl⟩
      · rw [e2] at hk; simp at hk; subst hk; exact ⟨_, e1, rfl⟩
    obtain ⟨c, h1, h2⟩ := own hk
    obtain ⟨c', h1', _⟩ := own hk'
    exact hh.inj k k' c c' h1 h1' hne (h2.trans ho) L L' hL hL'
theorem ResOk_ex {B : Nat} {w : World} {r : AV} {v : Value} (h : ResOk B w (exA r) v) : ResOk B w r v := by
  intro F
  obtain ⟨ρ, h1, h2, h3, h4⟩ := h F
  obtain ⟨a1, a2, a3⟩ := ofA_ex r F
  rw [a1] at h3
  rw [a3] at h1
  exact ⟨ρ, h1, h2, h3, HOk_same h4 fun k => applyU_same a2 (fun _ => .inl rfl) k⟩

theorem FnS_use {P : Program} {f : FuncId} {spec : List AV → Option (AV × List Prop)} (h : FnS P f spec) {ds : List AV} {r : AV} {cs : List Prop} (hs : spec ds = some (r, cs)) (hc : AllP cs)
    (w : World) (vals : List Value) (hv : F2 (DV w) ds vals) : CallsG P f vals.toArray w fun e w' => ∃ v, e = .returned v ∧ Below w.heap.size w w' ∧ ResOk w.heap.size w' r v :=
  h ds r (by simp only [hs, hc, if_true]) w vals hv
/-- A contract over numbers, from one over digits. -/
theorem FnS_num {P : Program} {f : FuncId} {spec specN : List AV → Option (AV × List Prop)} (h : FnS P f spec)
    (hs : ∀ ds r cs, specN ds = some (r, cs) → AllP cs → ∃ cs', spec (ds.map exA) = some (exA r, cs') ∧ AllP cs') : FnS P f specN :=
  FnS_intro fun ds r cs hd hc w vals hv => by
    obtain ⟨cs', h1, h2⟩ := hs ds r cs hd hc
    refine (FnS_use h h1 h2 w vals (F2_DV_ex hv)).mono ?_
    rintro e w' ⟨v, q1, q2, q3⟩
    exact ⟨v, q1, q2, ResOk_ex q3⟩

/-- The same contract, which takes numbers, too. -/
theorem FnS_exA {P : Program} {f : FuncId} {spec : List AV → Option (AV × List Prop)} (h : FnS P f spec) : FnS P f (fun ds => spec (ds.map exA)) :=
  FnS_intro fun _ _ _ hd hc w vals hv => FnS_use h hd hc w vals (F2_DV_ex hv)
/-- Numbers in place of digits, where the digits are a number's. -/
def numI : IV → IV × List Prop
  | .dI l => (.dN (nv l), [l = dg (nv l)])
  | i => (i, [])
def numL : List IV → List IV × List Prop
  | [] => ([], [])
  | i :: r => ((numI i).1 :: (numL r).1, (numI i).2 ++ (numL r).2)
def numA : AV → AV × List Prop
  | .val g l => (.val g (numL l).1, (numL l).2)
  | x => (x, [])
def numAs : List AV → List AV × List Prop
  | [] => ([], [])
  | x :: r => ((numA x).1 :: (numAs r).1, (numA x).2 ++ (numAs r).2)
theorem DCells_num {w : World} {i : IV} {vs : List Value} (h : DCells w i vs) (hc : AllP (numI i).2) : DCells w (numI i).1 vs := by
  cases i <;> first | exact h | skip
  rename_i l
  have e : l = dg (nv l) := hc.1
  show ∃ v, vs = [v] ∧ RdSl w (dg (nv l)).length ((dg (nv l)).map intVal) v
  rw [← e]
  exact h
theorem DLs_num {w : World} : ∀ {l : List IV} {vs : List Value}, DLs w l vs → AllP (numL l).2 → DLs w (numL l).1 vs
  | [], _, h, _ => h
  | _ :: _, _, ⟨a, b, e, h1, h2⟩, hc => ⟨a, b, e, DCells_num h1 (AllP_append hc).1, DLs_num h2 (AllP_append hc).2⟩
theorem DV_num {w : World} {x : AV} {v : Value} (h : DV w x v) (hc : AllP (numA x).2) : DV w (numA x).1 v := by
  cases x <;> first | exact h | skip
  obtain ⟨vs, h1, h2⟩ := h
  exact ⟨vs, DLs_num h1 hc, h2⟩
theorem F2_DV_num {w : World} : ∀ {l : List AV} {vs : List Value}, F2 (DV w) l vs → AllP (numAs l).2 → F2 (DV w) (numAs l).1 vs
  | [], [], _, _ => trivial
  | _ :: _, _ :: _, ⟨h1, h2⟩, hc => ⟨DV_num h1 (AllP_append hc).1, F2_DV_num h2 (AllP_append hc).2⟩
/-- The same contract, which takes digits, too. -/
def orD (spec : List AV → Option (AV × List Prop)) (ds : List AV) : Option (AV × List Prop) :=
  match spec (numAs ds).1 with
  | some (r, cs) => some (r, cs ++ (numAs ds).2)
  | none => none
theorem FnS_orD {P : Program} {f : FuncId} {spec : List AV → Option (AV × List Prop)} (h : FnS P f spec) : FnS P f (orD spec) :=
  FnS_intro fun ds r cs hd hc w vals hv => by
    unfold orD at hd
    split at hd
    case h_2 => simp at hd
    rename_i r' cs' hs
    simp at hd
    obtain ⟨rfl, rfl⟩ := hd
    obtain ⟨c1, c2⟩ := AllP_append hc
    exact FnS_use h hs c1 w vals (F2_DV_num hv c2)
end Go.Ev
/- Digits to the base 256, the lowest first, plainly. Own work; no program in sight. -/
namespace Go.Sp
open Go.Proofs.YtlgiaglbdifkpaaGreatDoor (trimFrom trimFrom_le)
open Go.Ev (dg nv)

def IsD (l : List Int) : Prop := ∀ d ∈ l, 0 ≤ d ∧ d < 256
def trim (l : List Int) : List Int := l.take (trimFrom l l.length)

theorem dg_zero : dg 0 = [] := by rw [dg]; simp
theorem dg_pos {n : Nat} (h : n ≠ 0) : dg n = ((n % 256 : Nat) : Int) :: dg (n / 256) := by rw [dg]; simp [h]

theorem IsD_nil : IsD [] := fun d h => by simp at h
theorem IsD_cons {d : Int} {l : List Int} (h : 0 ≤ d ∧ d < 256) (hl : IsD l) : IsD (d :: l) := fun x hx => by
  rcases List.mem_cons.1 hx with rfl | hx
  · exact h
  · exact hl x hx
theorem IsD_append {l m : List Int} (hl : IsD l) (hm : IsD m) : IsD (l ++ m) := fun x hx => by
  rcases List.mem_append.1 hx with hx | hx
  · exact hl x hx
  · exact hm x hx

theorem dg_D : ∀ n, IsD (dg n) := by
  intro n
  induction n using Nat.strongRecOn with
  | _ n ih =>
    by_cases h : n = 0
    · subst h; rw [dg_zero]; exact IsD_nil
    · rw [dg_pos h]; exact IsD_cons (by omega) (ih _ (by omega))
theorem nv_dg : ∀ n, nv (dg n) = n := by
  intro n
  induction n using Nat.strongRecOn with
  | _ n ih =>
    by_cases h : n = 0
    · subst h; rw [dg_zero]; rfl
    · rw [dg_pos h]
      simp only [nv]
      rw [ih _ (by omega)]
      simp
      omega

theorem nv_append : ∀ (l m : List Int), nv (l ++ m) = nv l + 256 ^ l.length * nv m
  | [], m => by simp [nv]
  | d :: l, m => by
    simp only [List.cons_append, nv, nv_append l m, List.length_cons, Nat.pow_succ]
    rw [Nat.mul_add, Nat.mul_comm (256 ^ l.length) 256, Nat.mul_assoc]
    omega
theorem nv_snoc (l : List Int) (d : Int) : nv (l ++ [d]) = nv l + 256 ^ l.length * d.toNat := by rw [nv_append]; simp [nv]

theorem nv_lt : ∀ {l : List Int}, IsD l → nv l < 256 ^ l.length := by
  intro l
  induction l with
  | nil => intro _; simp [nv]
  | cons d l ih =>
    intro h
    have h1 := h d (List.mem_cons_self ..)
    have h2 := ih fun x hx => h x (List.mem_cons_of_mem _ hx)
    simp only [nv, List.length_cons, Nat.pow_succ]
    omega

theorem nv_zero : ∀ {l : List Int}, nv l = 0 → IsD l → ∀ i, l.getD i 0 = 0 := by
  intro l
  induction l with
  | nil => intro _ _ i; simp
  | cons d l ih =>
    intro h hd i
    simp only [nv] at h
    have h1 := hd d (List.mem_cons_self ..)
    cases i with
    | zero => simp; omega
    | succ i => simpa using ih (by omega) (fun x hx => hd x (List.mem_cons_of_mem _ hx)) i

/-- The digit at a place. -/
theorem nv_get : ∀ {l : List Int}, IsD l → ∀ i, l.getD i 0 = ((nv l / 256 ^ i % 256 : Nat) : Int) := by
  intro l
  induction l with
  | nil => intro _ i; simp [nv]
  | cons d l ih =>
    intro hd i
    have h1 := hd d (List.mem_cons_self ..)
    have h2 := fun x hx => hd x (List.mem_cons_of_mem _ hx)
    cases i with
    | zero => simp [nv]; omega
    | succ i =>
      have := ih h2 i
      simp only [List.getD_cons_succ, this, nv]
      rw [Nat.pow_succ, Nat.mul_comm (256 ^ i) 256, ← Nat.div_div_eq_div_mul]
      have : (d.toNat + 256 * nv l) / 256 = nv l := by omega
      rw [this]

/-- A list of digits whose last one is not 0 is the list of its number's digits. -/
theorem eq_dg : ∀ {l : List Int}, IsD l → (l = [] ∨ l.getD (l.length - 1) 0 ≠ 0) → l = dg (nv l) := by
  intro l
  induction l with
  | nil => intro _ _; rw [nv, dg_zero]
  | cons d l ih =>
    intro hd hl
    have h1 := hd d (List.mem_cons_self ..)
    have h2 : IsD l := fun x hx => hd x (List.mem_cons_of_mem _ hx)
    have hl' : l = [] ∨ l.getD (l.length - 1) 0 ≠ 0 := by
      cases l with
      | nil => exact .inl rfl
      | cons e l => right; rcases hl with hl | hl; · simp at hl
                    simpa using hl
    have e := ih h2 hl'
    have hne : nv (d :: l) ≠ 0 := by
      intro h0
      rcases hl with hl | hl
      · simp at hl
      · exact hl (nv_zero h0 hd _)
    rw [dg_pos hne]
    simp only [nv]
    have e1 : (d.toNat + 256 * nv l) % 256 = d.toNat := by omega
    have e2 : (d.toNat + 256 * nv l) / 256 = nv l := by omega
    rw [e1, e2, ← e]
    congr 1
    omega

theorem trimFrom_last (l : List Int) : ∀ n, trimFrom l n = 0 ∨ l.getD (trimFrom l n - 1) 0 ≠ 0
  | 0 => .inl rfl
  | n + 1 => by
    unfold trimFrom
    split
    · exact trimFrom_last l n
    · right; simpa using ‹_›
theorem trimFrom_zeros (l : List Int) : ∀ n i, trimFrom l n ≤ i → i < n → l.getD i 0 = 0
  | 0, i, _, h => by omega
  | n + 1, i, h1, h2 => by
    unfold trimFrom at h1
    split at h1
    · rename_i h0
      by_cases e : i = n
      · subst e; exact h0
      · exact trimFrom_zeros l n i h1 (by omega)
    · omega

theorem nv_zeros : ∀ {l : List Int}, (∀ i, i < l.length → l.getD i 0 = 0) → nv l = 0 := by
  intro l
  induction l with
  | nil => intro _; rfl
  | cons d l ih =>
    intro h
    have h0 := h 0 (by simp)
    simp at h0
    simp only [nv, h0, ih (fun i hi => by have := h (i + 1) (by simpa using hi); simpa using this)]
    rfl

theorem trim_eq {l : List Int} (hd : IsD l) : trim l = dg (nv l) := by
  have hle := trimFrom_le l l.length
  have hnv : nv l = nv (trim l) := by
    have e : l = l.take (trimFrom l l.length) ++ l.drop (trimFrom l l.length) := (List.take_append_drop _ _).symm
    have hz : nv (l.drop (trimFrom l l.length)) = 0 := nv_zeros fun i hi => by
      have := trimFrom_zeros l l.length (trimFrom l l.length + i) (by omega) (by simp at hi; omega)
      rw [List.getD_eq_getElem?_getD] at this ⊢
      rw [List.getElem?_drop]
      exact this
    calc nv l = nv (l.take (trimFrom l l.length) ++ l.drop (trimFrom l l.length)) := by rw [← e]
      _ = nv (trim l) := by rw [nv_append, hz]; simp [trim]
  rw [hnv]
  refine eq_dg (fun x hx => hd x (List.mem_of_mem_take hx)) ?_
  rcases trimFrom_last l l.length with h | h
  · left; simp [trim, h]
  · by_cases h0 : trimFrom l l.length = 0
    · left; simp [trim, h0]
    · right
      have hl : (trim l).length = trimFrom l l.length := by simp [trim]; omega
      rw [hl]
      rw [List.getD_eq_getElem?_getD] at h ⊢
      unfold trim
      rw [List.getElem?_take, if_pos (by omega)]
      exact h
end Go.Sp
/- Sums, differences, comparisons of digits, plainly. Own work; no program in sight. -/
namespace Go.Sp
open Go.Proofs.YtlgiaglbdifkpaaGreatDoor (trimFrom trimFrom_le)
open Go.Ev (dg nv)

/-- The digit at a place, as a natural number. -/
def dig (a i : Nat) : Nat := a / 256 ^ i % 256
theorem dig_lt (a i : Nat) : dig a i < 256 := Nat.mod_lt _ (by omega)
theorem getD_dig {l : List Int} (h : IsD l) (i : Nat) : l.getD i 0 = ((dig (nv l) i : Nat) : Int) := nv_get h i
theorem mod_succ (a i : Nat) : a % 256 ^ (i + 1) = a % 256 ^ i + 256 ^ i * dig a i := by rw [Nat.mod_pow_succ]; rfl

theorem IsD_snoc {l : List Int} (h : IsD l) {d : Nat} (hd : d < 256) : IsD (l ++ [(d : Int)]) :=
  IsD_append h (IsD_cons ⟨by omega, by omega⟩ IsD_nil)
theorem nv_snocN (l : List Int) (d : Nat) : nv (l ++ [(d : Int)]) = nv l + 256 ^ l.length * d := by rw [nv_snoc]; simp

theorem dg_length_le {a k : Nat} (h : a < 256 ^ k) : (dg a).length ≤ k := by
  induction k generalizing a with
  | zero => have : a = 0 := by simpa using h
            subst this; rw [dg_zero]; simp
  | succ k ih =>
    by_cases h0 : a = 0
    · subst h0; rw [dg_zero]; simp
    · rw [dg_pos h0]
      rw [Nat.pow_succ] at h
      have := ih (a := a / 256) (by omega)
      simp only [List.length_cons]
      omega
theorem lt_of_dg (a : Nat) : a < 256 ^ (dg a).length := by
  have := nv_lt (dg_D a)
  rwa [nv_dg] at this

/-- One step of a sum. -/
theorem sum_step {a b i o c : Nat} (h : o + 256 ^ i * c = a % 256 ^ i + b % 256 ^ i) :
    o + 256 ^ i * ((dig a i + dig b i + c) % 256) + 256 ^ (i + 1) * ((dig a i + dig b i + c) / 256) = a % 256 ^ (i + 1) + b % 256 ^ (i + 1) := by
  rw [mod_succ, mod_succ]
  generalize dig a i = x at *
  generalize dig b i = y at *
  have e : 256 ^ (i + 1) * ((x + y + c) / 256) = 256 ^ i * (256 * ((x + y + c) / 256)) := by rw [Nat.pow_succ, Nat.mul_assoc]
  rw [e, Nat.add_assoc, ← Nat.mul_add, Nat.add_comm ((x + y + c) % 256), Nat.div_add_mod]
  generalize 256 ^ i = p at *
  have : p * (x + y + c) = p * x + p * y + p * c := by rw [Nat.mul_add, Nat.mul_add]
  omega

/-- One step of a difference. -/
theorem minus_step {a b i o c : Nat} (h : o + b % 256 ^ i = a % 256 ^ i + 256 ^ i * c) (hc : c ≤ 1) :
    o + 256 ^ i * ((256 + dig a i - dig b i - c) % 256) + b % 256 ^ (i + 1) = a % 256 ^ (i + 1) + 256 ^ (i + 1) * (1 - (256 + dig a i - dig b i - c) / 256) := by
  rw [mod_succ, mod_succ]
  have hx := dig_lt a i
  have hy := dig_lt b i
  generalize dig a i = x at *
  generalize dig b i = y at *
  have e : 256 ^ (i + 1) = 256 ^ i * 256 := Nat.pow_succ ..
  rw [e, Nat.mul_assoc]
  generalize 256 ^ i = p at *
  by_cases hlt : x < y + c
  · have e1 : (256 + x - y - c) % 256 = 256 + x - y - c := Nat.mod_eq_of_lt (by omega)
    have e2 : (256 + x - y - c) / 256 = 0 := Nat.div_eq_of_lt (by omega)
    rw [e1, e2]
    have e3 : 256 + x - y - c = 256 + x - (y + c) := by omega
    rw [e3, Nat.mul_sub]
    have : p * (256 + x) = p * 256 + p * x := Nat.mul_add ..
    have : p * (y + c) = p * y + p * c := Nat.mul_add ..
    have : p * (y + c) ≤ p * (256 + x) := Nat.mul_le_mul_left _ (by omega)
    omega
  · have e1 : (256 + x - y - c) % 256 = x - (y + c) := by omega
    have e2 : (256 + x - y - c) / 256 = 1 := by omega
    rw [e1, e2, Nat.mul_sub]
    have : p * (y + c) = p * y + p * c := Nat.mul_add ..
    have : p * (y + c) ≤ p * x := Nat.mul_le_mul_left _ (by omega)
    omega

/-- Which of two is less is told by the highest digit that differs. -/
theorem less_step {a b i : Nat} (h : a / 256 ^ (i + 1) = b / 256 ^ (i + 1)) : (dig a i = dig b i → a / 256 ^ i = b / 256 ^ i) ∧ (dig a i ≠ dig b i → (a < b ↔ dig a i < dig b i)) := by
  have hp : 0 < 256 ^ i := Nat.pow_pos (by omega)
  have ea : a / 256 ^ (i + 1) = a / 256 ^ i / 256 := by rw [Nat.pow_succ, Nat.div_div_eq_div_mul]
  have eb : b / 256 ^ (i + 1) = b / 256 ^ i / 256 := by rw [Nat.pow_succ, Nat.div_div_eq_div_mul]
  rw [ea, eb] at h
  unfold dig
  refine ⟨fun e => by omega, fun hne => ?_⟩
  constructor
  · intro hlt
    have : a / 256 ^ i ≤ b / 256 ^ i := Nat.div_le_div_right (by omega)
    omega
  · intro hlt
    rcases Nat.lt_or_ge a b with h1 | h1
    · exact h1
    · have : b / 256 ^ i ≤ a / 256 ^ i := Nat.div_le_div_right h1
      omega
end Go.Sp
/- Numbers of four words, plainly. Own work; no program in sight. -/
namespace Go.Sp
open Go.Ev (N4)

def val (a : N4) : Nat := a.w0.toNat + 18446744073709551616 * (a.w1.toNat + 18446744073709551616 * (a.w2.toNat + 18446744073709551616 * a.w3.toNat))
def p256 : Nat := 115792089237316195423570985008687907853269984665640564039457584007913129639936
def ofN (n : Nat) : N4 := ⟨BitVec.ofNat 64 n, BitVec.ofNat 64 (n / 18446744073709551616), BitVec.ofNat 64 (n / 340282366920938463463374607431768211456), BitVec.ofNat 64 (n / 6277101735386680763835789423207666416102355444464034512896)⟩

theorem N4_ext {a b : N4} (h0 : a.w0 = b.w0) (h1 : a.w1 = b.w1) (h2 : a.w2 = b.w2) (h3 : a.w3 = b.w3) : a = b := by
  cases a; cases b; simp only at h0 h1 h2 h3; subst h0 h1 h2 h3; rfl

theorem val_lt (a : N4) : val a < p256 := by
  have h0 := a.w0.isLt
  have h1 := a.w1.isLt
  have h2 := a.w2.isLt
  have h3 := a.w3.isLt
  simp only [val, p256]
  omega

theorem val_mk (w0 w1 w2 w3 : BitVec 64) : val ⟨w0, w1, w2, w3⟩ = w0.toNat + 18446744073709551616 * (w1.toNat + 18446744073709551616 * (w2.toNat + 18446744073709551616 * w3.toNat)) := rfl

theorem val_ofN (n : Nat) : val (ofN n) = n % p256 := by
  simp only [val, ofN, p256, BitVec.toNat_ofNat]
  omega

theorem val_inj {a b : N4} (h : val a = val b) : a = b := by
  have h0 := a.w0.isLt
  have h1 := a.w1.isLt
  have h2 := a.w2.isLt
  have h3 := a.w3.isLt
  have g0 := b.w0.isLt
  have g1 := b.w1.isLt
  have g2 := b.w2.isLt
  have g3 := b.w3.isLt
  simp only [val] at h
  refine N4_ext ?_ ?_ ?_ ?_ <;> apply BitVec.eq_of_toNat_eq <;> omega

theorem ofN_val (a : N4) : ofN (val a) = a := val_inj (by rw [val_ofN]; exact Nat.mod_eq_of_lt (val_lt a))
theorem ofN_mod (n : Nat) : ofN (n % p256) = ofN n := val_inj (by rw [val_ofN, val_ofN, Nat.mod_mod])

/-! ### Sums and differences -/
def zipN (f : BitVec 64 → BitVec 64 → BitVec 64 → BitVec 64 × BitVec 64) (a b : N4) : N4 × BitVec 64 :=
  let r0 := f a.w0 b.w0 0; let r1 := f a.w1 b.w1 r0.2; let r2 := f a.w2 b.w2 r1.2; let r3 := f a.w3 b.w3 r2.2
  (⟨r0.1, r1.1, r2.1, r3.1⟩, r3.2)
def addW (x y c : BitVec 64) : BitVec 64 × BitVec 64 := (x + y + c, (x &&& y ||| (x ||| y) &&& ~~~(x + y + c)) >>> 63)
def subW (x y c : BitVec 64) : BitVec 64 × BitVec 64 := (x - y - c, (~~~x &&& y ||| ~~~(x ^^^ y) &&& (x - y - c)) >>> 63)
def addN : N4 → N4 → N4 × BitVec 64 := zipN addW
def subN : N4 → N4 → N4 × BitVec 64 := zipN subW

theorem shr63 (w : BitVec 64) : (w >>> 63).toNat = if w.msb then 1 else 0 := by
  rw [BitVec.msb_eq_decide]
  have := w.isLt
  simp only [BitVec.toNat_ushiftRight, Nat.shiftRight_eq_div_pow]
  by_cases h : 2 ^ 63 ≤ w.toNat
  · simp [h]; omega
  · simp [h]; omega

theorem addW_ok (x y c : BitVec 64) (hc : c.toNat ≤ 1) : (addW x y c).1.toNat + 18446744073709551616 * (addW x y c).2.toNat = x.toNat + y.toNat + c.toNat ∧ (addW x y c).2.toNat ≤ 1 := by
  have hx := x.isLt
  have hy := y.isLt
  simp only [addW, shr63]
  generalize hs : x + y + c = s
  have hs' : s.toNat = (x.toNat + y.toNat + c.toNat) % 18446744073709551616 := by
    rw [← hs]; simp
  have hsl := s.isLt
  simp only [BitVec.msb_or, BitVec.msb_and, BitVec.msb_not]
  rw [BitVec.msb_eq_decide x, BitVec.msb_eq_decide y, BitVec.msb_eq_decide s]
  by_cases h1 : 2 ^ 63 ≤ x.toNat <;> by_cases h2 : 2 ^ 63 ≤ y.toNat <;> by_cases h3 : 2 ^ 63 ≤ s.toNat <;> simp [h1, h2, h3] <;> omega

theorem subW_ok (x y c : BitVec 64) (hc : c.toNat ≤ 1) : (subW x y c).1.toNat + y.toNat + c.toNat = x.toNat + 18446744073709551616 * (subW x y c).2.toNat ∧ (subW x y c).2.toNat ≤ 1 := by
  have hx := x.isLt
  have hy := y.isLt
  simp only [subW, shr63]
  generalize hs : x - y - c = s
  have hs' : s.toNat = (18446744073709551616 - c.toNat + (18446744073709551616 - y.toNat + x.toNat) % 18446744073709551616) % 18446744073709551616 := by
    rw [← hs]; simp
  have hsl := s.isLt
  simp only [BitVec.msb_or, BitVec.msb_and, BitVec.msb_not, BitVec.msb_xor]
  rw [BitVec.msb_eq_decide x, BitVec.msb_eq_decide y, BitVec.msb_eq_decide s]
  by_cases h1 : 2 ^ 63 ≤ x.toNat <;> by_cases h2 : 2 ^ 63 ≤ y.toNat <;> by_cases h3 : 2 ^ 63 ≤ s.toNat <;> simp [h1, h2, h3] <;> omega

theorem addN_ok (a b : N4) : val (addN a b).1 + p256 * (addN a b).2.toNat = val a + val b ∧ (addN a b).2.toNat ≤ 1 := by
  obtain ⟨q0, l0⟩ := addW_ok a.w0 b.w0 0 (by simp)
  obtain ⟨q1, l1⟩ := addW_ok a.w1 b.w1 (addW a.w0 b.w0 0).2 l0
  obtain ⟨q2, l2⟩ := addW_ok a.w2 b.w2 (addW a.w1 b.w1 (addW a.w0 b.w0 0).2).2 l1
  obtain ⟨q3, l3⟩ := addW_ok a.w3 b.w3 (addW a.w2 b.w2 (addW a.w1 b.w1 (addW a.w0 b.w0 0).2).2).2 l2
  simp only [addN, zipN, val, p256]
  refine ⟨?_, l3⟩
  generalize addW a.w3 b.w3 _ = r3 at *
  generalize addW a.w2 b.w2 _ = r2 at *
  generalize addW a.w1 b.w1 _ = r1 at *
  generalize addW a.w0 b.w0 0 = r0 at *
  simp at q0
  omega

theorem subN_ok (a b : N4) : val (subN a b).1 + val b = val a + p256 * (subN a b).2.toNat ∧ (subN a b).2.toNat ≤ 1 := by
  obtain ⟨q0, l0⟩ := subW_ok a.w0 b.w0 0 (by simp)
  obtain ⟨q1, l1⟩ := subW_ok a.w1 b.w1 (subW a.w0 b.w0 0).2 l0
  obtain ⟨q2, l2⟩ := subW_ok a.w2 b.w2 (subW a.w1 b.w1 (subW a.w0 b.w0 0).2).2 l1
  obtain ⟨q3, l3⟩ := subW_ok a.w3 b.w3 (subW a.w2 b.w2 (subW a.w1 b.w1 (subW a.w0 b.w0 0).2).2).2 l2
  simp only [subN, zipN, val, p256]
  refine ⟨?_, l3⟩
  generalize subW a.w3 b.w3 _ = r3 at *
  generalize subW a.w2 b.w2 _ = r2 at *
  generalize subW a.w1 b.w1 _ = r1 at *
  generalize subW a.w0 b.w0 0 = r0 at *
  simp at q0
  omega

theorem bv64_eq {x : BitVec 64} {n : Nat} (h : x.toNat = n) : x = BitVec.ofNat 64 n := by rw [← h]; simp

theorem addN_eq (a b : N4) : addN a b = (ofN (val a + val b), BitVec.ofNat 64 ((val a + val b) / p256)) := by
  obtain ⟨h1, h2⟩ := addN_ok a b
  have h3 := val_lt (addN a b).1
  have e1 : val (addN a b).1 = (val a + val b) % p256 := by rw [← h1]; simp only [p256] at *; omega
  have e2 : (addN a b).2.toNat = (val a + val b) / p256 := by rw [← h1]; simp only [p256] at *; omega
  exact Prod.ext (val_inj (by rw [e1, val_ofN])) (bv64_eq e2)

theorem subN_eq (a b : N4) : subN a b = (ofN (val a + p256 - val b), if val a < val b then 1 else 0) := by
  obtain ⟨h1, h2⟩ := subN_ok a b
  have h3 := val_lt (subN a b).1
  have h4 := val_lt a
  have h5 := val_lt b
  have e1 : val (subN a b).1 = (val a + p256 - val b) % p256 := by simp only [p256] at *; omega
  refine Prod.ext (val_inj (by rw [e1, val_ofN])) ?_
  apply BitVec.eq_of_toNat_eq
  show (subN a b).2.toNat = (if val a < val b then (1 : BitVec 64) else 0).toNat
  split
  · simp only [p256] at *; simp; omega
  · simp only [p256] at *; simp; omega
end Go.Sp
/- The rest of a division, bit by bit, plainly. Own work; no program in sight. -/
namespace Go.Sp
open Go.Ev (N4)

theorem shr_bit (w : BitVec 64) (s : Nat) : (w >>> s &&& 1#64).toNat = w.toNat / 2 ^ s % 2 := by
  simp [BitVec.toNat_and, BitVec.toNat_ushiftRight, Nat.shiftRight_eq_div_pow, Nat.and_one_is_mod]

theorem bit_split (n s : Nat) (h : s < 64) : n % 18446744073709551616 / 2 ^ s % 2 = n / 2 ^ s % 2 := by
  have h1 : (n % 2 ^ 64).testBit s = n.testBit s := by rw [Nat.testBit_mod_two_pow]; simp [h]
  have h2 : (18446744073709551616 : Nat) = 2 ^ 64 := rfl
  rw [h2]
  simp only [Nat.testBit_eq_decide_div_mod_eq] at h1
  have h3 : (n % 2 ^ 64 / 2 ^ s % 2 = 1) ↔ (n / 2 ^ s % 2 = 1) := by simpa using h1
  omega

def wide (lo hi : N4) : Nat := val lo + p256 * val hi
def wordAt (lo hi : N4) (j : Nat) : BitVec 64 := ([lo, hi].getD (j / 4) N4.zero).get (j % 4)

theorem wordAt_ok (lo hi : N4) : ∀ j, j < 8 → (wordAt lo hi j).toNat = wide lo hi / 2 ^ (64 * j) % 18446744073709551616 := by
  intro j hj
  have h0 := lo.w0.isLt
  have h1 := lo.w1.isLt
  have h2 := lo.w2.isLt
  have h3 := lo.w3.isLt
  have g0 := hi.w0.isLt
  have g1 := hi.w1.isLt
  have g2 := hi.w2.isLt
  have g3 := hi.w3.isLt
  match j, hj with
  | 0, _ => show lo.w0.toNat = _; simp only [wide, val, p256]; omega
  | 1, _ => show lo.w1.toNat = _; simp only [wide, val, p256]; omega
  | 2, _ => show lo.w2.toNat = _; simp only [wide, val, p256]; omega
  | 3, _ => show lo.w3.toNat = _; simp only [wide, val, p256]; omega
  | 4, _ => show hi.w0.toNat = _; simp only [wide, val, p256]; omega
  | 5, _ => show hi.w1.toNat = _; simp only [wide, val, p256]; omega
  | 6, _ => show hi.w2.toNat = _; simp only [wide, val, p256]; omega
  | 7, _ => show hi.w3.toNat = _; simp only [wide, val, p256]; omega

theorem wordAt_bit (lo hi : N4) (k : Nat) (hk : k < 512) : (wordAt lo hi (k / 64) >>> (k % 64) &&& 1#64).toNat = wide lo hi / 2 ^ k % 2 := by
  rw [shr_bit, wordAt_ok lo hi (k / 64) (by omega), bit_split _ _ (by omega), Nat.div_div_eq_div_mul, ← Nat.pow_add]
  congr 3
  omega

/-- One step, as the code computes it. -/
def twice (L : N4) (b : BitVec 64) : N4 := (ofN (val L + val L)).set 0 ((ofN (val L + val L)).get 0 ||| b)
def stepN (m L : N4) (b : BitVec 64) : N4 :=
  if (BitVec.ofNat 64 ((val L + val L) / p256) ||| 1#64 - (if val (twice L b) < val m then 1#64 else 0#64)) = 0#64 then twice L b
  else ofN (val (twice L b) + p256 - val m)

theorem or_bit (x b : BitVec 64) (hx : x.toNat % 2 = 0) (hb : b.toNat ≤ 1) : (x ||| b).toNat = x.toNat + b.toNat := by
  rw [BitVec.toNat_or]
  have h : b.toNat = 0 ∨ b.toNat = 1 := by omega
  rcases h with h | h
  · rw [h]; simp
  · rw [h]
    have h1 := Nat.or_div_two (a := x.toNat) (b := 1)
    have h2 : (x.toNat ||| 1) % 2 = 1 := Nat.or_mod_two_eq_one.2 (.inr rfl)
    simp at h1
    omega

theorem val_set0 (a : N4) (x : BitVec 64) : val (a.set 0 x) + a.w0.toNat = val a + x.toNat := by
  cases a
  simp only [N4.set, val]
  omega

theorem val_twice (L : N4) (b : BitVec 64) (hb : b.toNat ≤ 1) : val (twice L b) = (val L + val L) % p256 + b.toNat := by
  have hlt := val_lt L
  have e : val (ofN (val L + val L)) = (val L + val L) % p256 := val_ofN _
  have h0 : ((ofN (val L + val L)).get 0).toNat % 2 = 0 := by
    show (BitVec.ofNat 64 (val L + val L)).toNat % 2 = 0
    rw [BitVec.toNat_ofNat]
    omega
  have h1 : val (twice L b) = val (ofN (val L + val L)) + b.toNat := by
    unfold twice
    generalize ofN (val L + val L) = a at *
    have h2 := val_set0 a (a.get 0 ||| b)
    rw [or_bit _ _ h0 hb] at h2
    have h3 : (a.get 0).toNat = a.w0.toNat := rfl
    omega
  rw [h1, e]

theorem stepN_ok (m L : N4) (b : BitVec 64) (hb : b.toNat ≤ 1) (hm : val L < val m) : val (stepN m L b) = (2 * val L + b.toNat) % val m := by
  have hlt := val_lt L
  have hmlt := val_lt m
  have ht := val_twice L b hb
  generalize hT : twice L b = tw at *
  have htlt := val_lt tw
  have hc : (BitVec.ofNat 64 ((val L + val L) / p256)).toNat = (val L + val L) / p256 := by
    rw [BitVec.toNat_ofNat]
    simp only [p256] at *
    omega
  have hcond : ((BitVec.ofNat 64 ((val L + val L) / p256) ||| 1#64 - (if val tw < val m then 1#64 else 0#64)) = 0#64) ↔ ((val L + val L) / p256 = 0 ∧ val tw < val m) := by
    constructor
    · intro h
      have h' := congrArg BitVec.toNat h
      rw [BitVec.toNat_or, hc] at h'
      simp only [BitVec.toNat_zero, Nat.or_eq_zero_iff] at h'
      refine ⟨h'.1, ?_⟩
      have h2 := h'.2
      split at h2
      · assumption
      · simp at h2
    · rintro ⟨h1, h2⟩
      rw [if_pos h2, h1]
      rfl
  unfold stepN
  rw [hT]
  have hmod : (2 * val L + b.toNat) % val m = if 2 * val L + b.toNat < val m then 2 * val L + b.toNat else 2 * val L + b.toNat - val m := by
    split
    · exact Nat.mod_eq_of_lt ‹_›
    · rw [Nat.mod_eq_sub_mod (by omega)]
      exact Nat.mod_eq_of_lt (by omega)
  rw [hmod]
  by_cases h : (val L + val L) / p256 = 0 ∧ val tw < val m
  · rw [if_pos (hcond.2 h)]
    simp only [p256] at *
    rw [if_pos (by omega)]
    omega
  · rw [if_neg (fun q => h (hcond.1 q)), val_ofN]
    simp only [p256] at *
    rw [if_neg (by omega)]
    omega

theorem next_bit (A k M : Nat) : (2 * (A / 2 ^ (k + 1) % M) + A / 2 ^ k % 2) % M = A / 2 ^ k % M := by
  have h : A / 2 ^ k = 2 * (A / 2 ^ (k + 1)) + A / 2 ^ k % 2 := by
    rw [Nat.pow_succ, ← Nat.div_div_eq_div_mul]
    omega
  conv => rhs; rw [h]
  rw [Nat.add_mod, Nat.mul_mod, Nat.mod_mod, ← Nat.mul_mod, ← Nat.add_mod]
end Go.Sp
/- Picking and bits, plainly. Own work; no program in sight. -/
namespace Go.Sp
open Go.Ev (N4)

def pickN (x : BitVec 64) (a b : N4) : N4 :=
  let m : BitVec 64 := -((x ||| -x) >>> 63)
  ⟨a.w0 ^^^ (m &&& (a.w0 ^^^ b.w0)), a.w1 ^^^ (m &&& (a.w1 ^^^ b.w1)), a.w2 ^^^ (m &&& (a.w2 ^^^ b.w2)), a.w3 ^^^ (m &&& (a.w3 ^^^ b.w3))⟩

theorem mask_eq (x : BitVec 64) : -((x ||| -x) >>> 63) = if x = 0#64 then 0#64 else BitVec.allOnes 64 := by
  have h : ((x ||| -x) >>> 63).toNat = if x = 0#64 then 0 else 1 := by
    rw [shr63, BitVec.msb_or, BitVec.msb_eq_decide x, BitVec.msb_eq_decide (-x)]
    have hx := x.isLt
    by_cases h0 : x = 0#64
    · subst h0; rfl
    · rw [if_neg h0]
      have hne : x.toNat ≠ 0 := fun e => h0 (BitVec.eq_of_toNat_eq (e.trans rfl))
      by_cases h1 : 2 ^ 63 ≤ x.toNat
      · simp [h1]
      · have h2 : 2 ^ 63 ≤ (-x).toNat := by rw [BitVec.toNat_neg]; omega
        simp only [h2, decide_true, Bool.or_true, if_true]
  split
  · rename_i h0; subst h0; rfl
  · rename_i h0
    rw [if_neg h0] at h
    have : (x ||| -x) >>> 63 = 1#64 := BitVec.eq_of_toNat_eq (by rw [h]; rfl)
    rw [this]; rfl

theorem pickN_eq (x : BitVec 64) (a b : N4) : pickN x a b = if x = 0#64 then a else b := by
  unfold pickN
  simp only [mask_eq]
  split
  · refine N4_ext ?_ ?_ ?_ ?_ <;> simp
  · have key : ∀ p q : BitVec 64, p ^^^ (BitVec.allOnes 64 &&& (p ^^^ q)) = q := by
      intro p q
      rw [BitVec.allOnes_and, ← BitVec.xor_assoc, BitVec.xor_self, BitVec.zero_xor]
    refine N4_ext ?_ ?_ ?_ ?_ <;> simp only [key]

/-- One bit. -/
def bitN (a : N4) (i : Int) : BitVec 64 := if i < 0 ∨ 255 < i then 0#64 else BitVec.ofNat 64 (val a / 2 ^ i.toNat % 2)

theorem get_ok (a : N4) (j : Nat) (hj : j < 4) : (a.get j).toNat = val a / 2 ^ (64 * j) % 18446744073709551616 := by
  have h0 := a.w0.isLt
  have h1 := a.w1.isLt
  have h2 := a.w2.isLt
  have h3 := a.w3.isLt
  match j, hj with
  | 0, _ => show a.w0.toNat = _; simp only [val]; omega
  | 1, _ => show a.w1.toNat = _; simp only [val]; omega
  | 2, _ => show a.w2.toNat = _; simp only [val]; omega
  | 3, _ => show a.w3.toNat = _; simp only [val]; omega

theorem bitN_in (a : N4) (k : Nat) (hk : k ≤ 255) : a.get (k / 64) >>> (k % 64) &&& 1#64 = BitVec.ofNat 64 (val a / 2 ^ k % 2) := by
  apply BitVec.eq_of_toNat_eq
  have h := shr_bit (a.get (k / 64)) (k % 64)
  rw [get_ok a (k / 64) (by omega), bit_split _ _ (by omega), Nat.div_div_eq_div_mul, ← Nat.pow_add] at h
  have e : 64 * (k / 64) + k % 64 = k := by omega
  rw [e] at h
  refine h.trans ?_
  rw [BitVec.toNat_ofNat]
  omega

/-- The rest of a double number. -/
def modN (lo hi m : N4) : N4 := if val m = 0 then ⟨0, 0, 0, 0⟩ else ofN (wide lo hi % val m)
def modE (m : N4) : Int := if val m = 0 then 8 else 0
theorem wide_lt (lo hi : N4) {n k : Nat} (hn : n = k + k) (hk : k = 256) : wide lo hi < 2 ^ n := by
  have h1 := val_lt lo
  have h2 := val_lt hi
  have e : 2 ^ k = p256 := by subst hk; rfl
  rw [hn, Nat.pow_add, e]
  simp only [wide, p256] at *
  omega
theorem wide_top (lo hi : N4) (M : Nat) {n k : Nat} (hn : n = k + k) (hk : k = 256) : 0 = wide lo hi / 2 ^ n % M := by
  rw [Nat.div_eq_of_lt (wide_lt lo hi hn hk), Nat.zero_mod]
end Go.Sp
/- Products, digit by digit to the base 2^32, plainly. Own work; no program in sight. -/
namespace Go.Sp
open Go.Ev (N4)

/-- Sixteen words. -/
structure Q where
  a : N4
  b : N4
  c : N4
  d : N4
def Q.zero : Q := ⟨⟨0#64, 0#64, 0#64, 0#64⟩, ⟨0#64, 0#64, 0#64, 0#64⟩, ⟨0#64, 0#64, 0#64, 0#64⟩, ⟨0#64, 0#64, 0#64, 0#64⟩⟩
def g16 (q : Q) (j : Nat) : BitVec 64 :=
  match j / 4 with
  | 0 => q.a.get (j % 4)
  | 1 => q.b.get (j % 4)
  | 2 => q.c.get (j % 4)
  | _ => q.d.get (j % 4)
def s16 (q : Q) (j : Nat) (x : BitVec 64) : Q :=
  match j / 4 with
  | 0 => { q with a := q.a.set (j % 4) x }
  | 1 => { q with b := q.b.set (j % 4) x }
  | 2 => { q with c := q.c.set (j % 4) x }
  | _ => { q with d := q.d.set (j % 4) x }

def mulT (x y d c : BitVec 64) : BitVec 64 := x * y + d + c
/-- k steps of a row. -/
def inner (x : BitVec 64) (y : Nat → BitVec 64) (i : Nat) (q : Q) : Nat → Q × BitVec 64
  | 0 => (q, 0#64)
  | k + 1 => let r := inner x y i q k; let t := mulT x (y k) (g16 r.1 (i + k)) r.2; (s16 r.1 (i + k) (t &&& 4294967295#64), t >>> 32)
def rowQ (x : BitVec 64) (y : Nat → BitVec 64) (i : Nat) (q : Q) : Q := let r := inner x y i q 8; s16 r.1 (i + 8) r.2

theorem n4_get_set (a : N4) (i j : Nat) (x : BitVec 64) (hi : i < 4) (hj : j < 4) : (a.set i x).get j = if i = j then x else a.get j := by
  match i, j, hi, hj with
  | 0, 0, _, _ => rfl
  | 0, 1, _, _ => rfl
  | 0, 2, _, _ => rfl
  | 0, 3, _, _ => rfl
  | 1, 0, _, _ => rfl
  | 1, 1, _, _ => rfl
  | 1, 2, _, _ => rfl
  | 1, 3, _, _ => rfl
  | 2, 0, _, _ => rfl
  | 2, 1, _, _ => rfl
  | 2, 2, _, _ => rfl
  | 2, 3, _, _ => rfl
  | 3, 0, _, _ => rfl
  | 3, 1, _, _ => rfl
  | 3, 2, _, _ => rfl
  | 3, 3, _, _ => rfl

theorem g16_s16 (q : Q) (i j : Nat) (x : BitVec 64) (hi : i < 16) (hj : j < 16) : g16 (s16 q i x) j = if i = j then x else g16 q j := by
  have key : ∀ (m n p r : Nat), m < 4 → n < 4 → p < 4 → r < 4 → i = 4 * m + p → j = 4 * n + r → g16 (s16 q i x) j = if i = j then x else g16 q j := by
    intro m n p r hm hn hp hr e1 e2
    have d1 : i / 4 = m := by omega
    have d2 : j / 4 = n := by omega
    have m1 : i % 4 = p := by omega
    have m2 : j % 4 = r := by omega
    have hs : (i = j) ↔ (m = n ∧ p = r) := by omega
    simp only [g16, s16, d1, d2, m1, m2, hs]
    have hg := fun a : N4 => n4_get_set a p r x hp hr
    match m, n, hm, hn with
    | 0, 0, _, _ => simp [hg]
    | 0, 1, _, _ => simp
    | 0, 2, _, _ => simp
    | 0, 3, _, _ => simp
    | 1, 0, _, _ => simp
    | 1, 1, _, _ => simp [hg]
    | 1, 2, _, _ => simp
    | 1, 3, _, _ => simp
    | 2, 0, _, _ => simp
    | 2, 1, _, _ => simp
    | 2, 2, _, _ => simp [hg]
    | 2, 3, _, _ => simp
    | 3, 0, _, _ => simp
    | 3, 1, _, _ => simp
    | 3, 2, _, _ => simp
    | 3, 3, _, _ => simp [hg]
  exact key (i / 4) (j / 4) (i % 4) (j % 4) (by omega) (by omega) (by omega) (by omega) (by omega) (by omega)

/-- The number that digits to the base 2^32 write. -/
def sumD (B : Nat) (f : Nat → Nat) : Nat → Nat
  | 0 => 0
  | n + 1 => sumD B f n + f n * B ^ n
theorem sumD_congr {B : Nat} {f g : Nat → Nat} : ∀ n, (∀ j, j < n → f j = g j) → sumD B f n = sumD B g n
  | 0, _ => rfl
  | n + 1, h => by simp only [sumD]; rw [sumD_congr n (fun j hj => h j (by omega)), h n (by omega)]
theorem sumD_set {B : Nat} {f g : Nat → Nat} {i : Nat} : ∀ n, i < n → (∀ j, j ≠ i → j < n → g j = f j) → sumD B g n + f i * B ^ i = sumD B f n + g i * B ^ i
  | 0, h, _ => by omega
  | n + 1, h, hf => by
    simp only [sumD]
    by_cases e : i = n
    · subst e
      rw [sumD_congr i (B := B) (f := g) (g := f) (fun j hj => hf j (by omega) (by omega))]
      omega
    · have ih := sumD_set (B := B) (f := f) (g := g) n (by omega) (fun j hj hjn => hf j hj (by omega))
      rw [hf n (fun q => e q.symm) (by omega)]
      omega
def valQ (B : Nat) (q : Q) : Nat := sumD B (fun j => (g16 q j).toNat) 16
theorem valQ_set (B : Nat) (q : Q) (i : Nat) (x : BitVec 64) (hi : i < 16) : valQ B (s16 q i x) + (g16 q i).toNat * B ^ i = valQ B q + x.toNat * B ^ i := by
  have hne : ∀ j, j ≠ i → j < 16 → (g16 (s16 q i x) j).toNat = (g16 q j).toNat := fun j hj hjn => by rw [g16_s16 q i j x hi hjn, if_neg (Ne.symm hj)]
  have h := sumD_set (B := B) (f := fun j => (g16 q j).toNat) (g := fun j => (g16 (s16 q i x) j).toNat) 16 hi hne
  have he : (g16 (s16 q i x) i).toNat = x.toNat := by rw [g16_s16 q i i x hi hi, if_pos rfl]
  rw [← he]
  exact h

theorem row_arith {V V' c d lo h x y S Q0 P I K B : Nat} (h1 : V + c * P = Q0 + x * S * I) (hv : V' + d * P = V + lo * P) (t1 : lo + B * h = x * y + d + c) (hP : P = I * K) :
    V' + h * (B * P) = Q0 + x * (S + y * K) * I := by
  have e0 : (lo + B * h) * P = (x * y + d + c) * P := by rw [t1]
  have e1 : (lo + B * h) * P = lo * P + h * (B * P) := by rw [Nat.add_mul, Nat.mul_comm B h, Nat.mul_assoc]
  have e2 : (x * y + d + c) * P = x * y * P + d * P + c * P := by rw [Nat.add_mul, Nat.add_mul]
  have e3 : x * (S + y * K) * I = x * S * I + x * y * P := by
    rw [hP, Nat.mul_add, Nat.add_mul]
    congr 1
    rw [Nat.mul_comm I K, ← Nat.mul_assoc, ← Nat.mul_assoc]
  generalize h * (B * P) = u1 at *
  generalize x * (S + y * K) * I = u2 at *
  generalize x * S * I = u3 at *
  generalize x * y * P = u4 at *
  generalize d * P = u5 at *
  generalize c * P = u6 at *
  generalize lo * P = u7 at *
  omega

theorem mulT_ok {x y d c : BitVec 64} (hx : x.toNat < 4294967296) (hy : y.toNat < 4294967296) (hd : d.toNat < 4294967296) (hc : c.toNat < 4294967296) :
    (mulT x y d c &&& 4294967295#64).toNat + 4294967296 * (mulT x y d c >>> 32).toNat = x.toNat * y.toNat + d.toNat + c.toNat ∧ (mulT x y d c &&& 4294967295#64).toNat < 4294967296 ∧ (mulT x y d c >>> 32).toNat < 4294967296 := by
  have hm : x.toNat * y.toNat ≤ 4294967295 * 4294967295 := Nat.mul_le_mul (by omega) (by omega)
  have ht : (mulT x y d c).toNat = x.toNat * y.toNat + d.toNat + c.toNat := by
    simp only [mulT, BitVec.toNat_add, BitVec.toNat_mul]
    omega
  have h1 : (mulT x y d c &&& 4294967295#64).toNat = (mulT x y d c).toNat % 4294967296 := by
    rw [BitVec.toNat_and]
    exact Nat.and_two_pow_sub_one_eq_mod _ 32
  have h2 : (mulT x y d c >>> 32).toNat = (mulT x y d c).toNat / 4294967296 := by
    rw [BitVec.toNat_ushiftRight, Nat.shiftRight_eq_div_pow]
  rw [h1, h2, ht]
  omega

def Small (q : Q) : Prop := ∀ j, j < 16 → (g16 q j).toNat < 4294967296

theorem inner_ok {B : Nat} (hB : B = 4294967296) {x : BitVec 64} {y : Nat → BitVec 64} {i : Nat} {q : Q} (hx : x.toNat < 4294967296) (hy : ∀ k, k < 8 → (y k).toNat < 4294967296) (hq : Small q) (hi : i < 8) : ∀ k, k ≤ 8 →
    valQ B (inner x y i q k).1 + (inner x y i q k).2.toNat * B ^ (i + k) = valQ B q + x.toNat * sumD B (fun j => (y j).toNat) k * B ^ i ∧ Small (inner x y i q k).1 ∧ (inner x y i q k).2.toNat < 4294967296 ∧ ∀ j, i + k ≤ j → j < 16 → g16 (inner x y i q k).1 j = g16 q j := by
  intro k
  induction k with
  | zero => intro _; exact ⟨by simp [inner, sumD], hq, by simp [inner], fun j _ _ => rfl⟩
  | succ k ih =>
    intro hk
    obtain ⟨h1, h2, h3, h4⟩ := ih (by omega)
    simp only [inner]
    generalize hr : inner x y i q k = r at *
    obtain ⟨t1, t2, t3⟩ := mulT_ok hx (hy k (by omega)) (h2 (i + k) (by omega)) h3
    generalize hlo : mulT x (y k) (g16 r.1 (i + k)) r.2 &&& 4294967295#64 = lo at *
    generalize hhi : mulT x (y k) (g16 r.1 (i + k)) r.2 >>> 32 = hi' at *
    have hv := valQ_set B r.1 (i + k) lo (by omega)
    refine ⟨?_, fun j hj => ?_, t3, fun j hj hjn => ?_⟩
    · have e1 : B ^ (i + (k + 1)) = B * B ^ (i + k) := by rw [← Nat.add_assoc, Nat.pow_succ, Nat.mul_comm]
      rw [e1]
      exact row_arith h1 hv (hB ▸ t1) (Nat.pow_add ..)
    · rw [g16_s16 _ _ _ _ (by omega) hj]
      split
      · exact t2
      · exact h2 j hj
    · rw [g16_s16 _ _ _ _ (by omega) hjn, if_neg (by omega)]
      exact h4 j (by omega) hjn

theorem rowQ_ok {B : Nat} (hB : B = 4294967296) {x : BitVec 64} {y : Nat → BitVec 64} {i : Nat} {q : Q} (hx : x.toNat < 4294967296) (hy : ∀ k, k < 8 → (y k).toNat < 4294967296) (hq : Small q) (hi : i < 8) (hz : ∀ j, i + 8 ≤ j → j < 16 → g16 q j = 0#64) :
    valQ B (rowQ x y i q) = valQ B q + x.toNat * sumD B (fun j => (y j).toNat) 8 * B ^ i ∧ Small (rowQ x y i q) ∧ ∀ j, i + 9 ≤ j → j < 16 → g16 (rowQ x y i q) j = 0#64 := by
  obtain ⟨h1, h2, h3, h4⟩ := inner_ok hB hx hy hq hi 8 (Nat.le_refl _)
  unfold rowQ
  simp only
  generalize inner x y i q 8 = r at *
  have hv := valQ_set B r.1 (i + 8) r.2 (by omega)
  have h0 : g16 r.1 (i + 8) = 0#64 := by rw [h4 (i + 8) (by omega) (by omega), hz (i + 8) (by omega) (by omega)]
  refine ⟨?_, fun j hj => ?_, fun j hj hjn => ?_⟩
  · rw [h0] at hv
    simp at hv
    omega
  · rw [g16_s16 _ _ _ _ (by omega) hj]
    split
    · exact h3
    · exact h2 j hj
  · rw [g16_s16 _ _ _ _ (by omega) hjn, if_neg (by omega), h4 j (by omega) hjn]
    exact hz j (by omega) hjn
end Go.Sp
/- Products: what the rows add up to. Own work; no program in sight. -/
namespace Go.Sp
open Go.Ev (N4)

def halfW (a : N4) (i : Nat) : BitVec 64 := (a.get (i / 2) >>> (32 * (i % 2))) &&& 4294967295#64
def halvesN (a : N4) : N4 × N4 := (⟨halfW a 0, halfW a 1, halfW a 2, halfW a 3⟩, ⟨halfW a 4, halfW a 5, halfW a 6, halfW a 7⟩)
def rows (x y : N4) : Nat → Q
  | 0 => Q.zero
  | n + 1 => rowQ (halfW x n) (halfW y) n (rows x y n)
def outW (q : Q) (j : Nat) : BitVec 64 := g16 q (2 * j) ||| (g16 q (2 * j + 1) <<< 32)
def outQ (q : Q) : N4 × N4 := (⟨outW q 0, outW q 1, outW q 2, outW q 3⟩, ⟨outW q 4, outW q 5, outW q 6, outW q 7⟩)
def mulV (a b : N4) : N4 × N4 := (ofN (val a * val b), ofN (val a * val b / p256))

theorem low_ok (w : BitVec 64) : (w &&& 4294967295#64).toNat = w.toNat % 4294967296 := by
  rw [BitVec.toNat_and]
  exact Nat.and_two_pow_sub_one_eq_mod _ 32
theorem half_even (a : N4) (k : Nat) : (halfW a (2 * k)).toNat = (a.get k).toNat % 4294967296 := by
  have e1 : 2 * k / 2 = k := by omega
  have e2 : 2 * k % 2 = 0 := by omega
  simp only [halfW, e1, e2, low_ok, BitVec.toNat_ushiftRight, Nat.mul_zero, Nat.shiftRight_zero]
theorem half_odd (a : N4) (k : Nat) : (halfW a (2 * k + 1)).toNat = (a.get k).toNat / 4294967296 := by
  have e1 : (2 * k + 1) / 2 = k := by omega
  have e2 : (2 * k + 1) % 2 = 1 := by omega
  have h := (a.get k).isLt
  simp only [halfW, e1, e2, low_ok, BitVec.toNat_ushiftRight, Nat.mul_one, Nat.shiftRight_eq_div_pow]
  omega
theorem half_lt (a : N4) (j : Nat) : (halfW a j).toNat < 4294967296 := by
  simp only [halfW, low_ok]
  omega
theorem half_sum (a : N4) : sumD 4294967296 (fun j => (halfW a j).toNat) 8 = val a := by
  have h0 := half_even a 0
  have h1 := half_odd a 0
  have h2 := half_even a 1
  have h3 := half_odd a 1
  have h4 := half_even a 2
  have h5 := half_odd a 2
  have h6 := half_even a 3
  have h7 := half_odd a 3
  simp only [Nat.mul_zero, Nat.zero_add, Nat.mul_one, Nat.reduceMul, Nat.reduceAdd] at h0 h1 h2 h3 h4 h5 h6 h7
  simp only [sumD, h0, h1, h2, h3, h4, h5, h6, h7, val, N4.get, Nat.reducePow]
  omega

theorem g16_zero (j : Nat) : g16 Q.zero j = 0#64 := by
  have key : ∀ k, (⟨0#64, 0#64, 0#64, 0#64⟩ : N4).get k = 0#64 := by
    intro k
    match k with
    | 0 => rfl
    | 1 => rfl
    | 2 => rfl
    | k + 3 => rfl
  unfold g16
  split <;> exact key _

theorem rows_ok (x y : N4) : ∀ i, i ≤ 8 → valQ 4294967296 (rows x y i) = sumD 4294967296 (fun j => (halfW x j).toNat) i * val y ∧ Small (rows x y i) ∧ ∀ j, i + 8 ≤ j → j < 16 → g16 (rows x y i) j = 0#64 := by
  intro i
  generalize hB : 4294967296 = B
  induction i with
  | zero =>
    intro _
    refine ⟨?_, fun j _ => ?_, fun j _ _ => g16_zero j⟩
    · have gen : ∀ n, sumD B (fun j => (g16 Q.zero j).toNat) n = 0 := by
        intro n
        induction n with
        | zero => rfl
        | succ n ih =>
          show sumD B (fun j => (g16 Q.zero j).toNat) n + (g16 Q.zero n).toNat * B ^ n = 0
          rw [ih, g16_zero]; simp
      show sumD B (fun j => (g16 Q.zero j).toNat) 16 = 0 * val y
      rw [gen, Nat.zero_mul]
    · show (g16 Q.zero j).toNat < _
      rw [g16_zero]; simp
  | succ i ih =>
    intro hi
    obtain ⟨h1, h2, h3⟩ := ih (by omega)
    obtain ⟨r1, r2, r3⟩ := rowQ_ok hB.symm (half_lt x i) (fun k _ => half_lt y k) h2 (by omega) h3
    refine ⟨?_, r2, fun j hj hjn => r3 j (by omega) hjn⟩
    show valQ B (rowQ (halfW x i) (halfW y) i (rows x y i)) = (sumD B (fun j => (halfW x j).toNat) i + (halfW x i).toNat * B ^ i) * val y
    have hy : sumD B (fun j => (halfW y j).toNat) 8 = val y := by rw [← hB]; exact half_sum y
    rw [r1, h1, hy, Nat.add_mul, Nat.mul_assoc, Nat.mul_comm (val y), ← Nat.mul_assoc]

theorem outW_ok {q : Q} (hq : Small q) (j : Nat) (hj : j < 8) : (outW q j).toNat = (g16 q (2 * j)).toNat + 4294967296 * (g16 q (2 * j + 1)).toNat := by
  have h1 := hq (2 * j) (by omega)
  have h2 := hq (2 * j + 1) (by omega)
  simp only [outW, BitVec.toNat_or, BitVec.toNat_shiftLeft]
  have e : (g16 q (2 * j + 1)).toNat <<< 32 % 2 ^ 64 = (g16 q (2 * j + 1)).toNat <<< 32 := by
    rw [Nat.shiftLeft_eq]
    omega
  rw [e, Nat.or_comm, ← Nat.shiftLeft_add_eq_or_of_lt (by omega : (g16 q (2 * j)).toNat < 2 ^ 32), Nat.shiftLeft_eq]
  omega

theorem outQ_ok {q : Q} (hq : Small q) : wide (outQ q).1 (outQ q).2 = valQ 4294967296 q := by
  have h0 := outW_ok hq 0 (by omega)
  have h1 := outW_ok hq 1 (by omega)
  have h2 := outW_ok hq 2 (by omega)
  have h3 := outW_ok hq 3 (by omega)
  have h4 := outW_ok hq 4 (by omega)
  have h5 := outW_ok hq 5 (by omega)
  have h6 := outW_ok hq 6 (by omega)
  have h7 := outW_ok hq 7 (by omega)
  simp only [Nat.mul_zero, Nat.zero_add, Nat.mul_one, Nat.reduceMul, Nat.reduceAdd] at h0 h1 h2 h3 h4 h5 h6 h7
  simp only [wide, outQ, val, h0, h1, h2, h3, h4, h5, h6, h7, valQ, sumD, p256, Nat.reducePow]
  omega

theorem mul_ok (x y : N4) : outQ (rows x y 8) = mulV x y := by
  obtain ⟨h1, h2, _⟩ := rows_ok x y 8 (Nat.le_refl _)
  have h3 := outQ_ok h2
  rw [h1, half_sum] at h3
  have l1 := val_lt (outQ (rows x y 8)).1
  have l2 := val_lt (outQ (rows x y 8)).2
  generalize outQ (rows x y 8) = r at *
  unfold mulV
  rw [← h3]
  refine Prod.ext (val_inj ?_) (val_inj ?_)
  · rw [val_ofN]; simp only [wide, p256] at *; omega
  · rw [val_ofN]; simp only [wide, p256] at *; omega
end Go.Sp
