/- Code evaluated with conditions, loops by what they come to. Own work; no statement of the seat is proved here. -/
import Derived.Test.YtclngijinhcdpaaEvT
namespace Go.Ev
open Go.RowKit

/-- The number of the first region. -/
def firstR : Code → Option Nat
  | .region id _ _ => some id
  | .seq x y => match firstR x with
    | some i => some i
    | none => firstR y
  | .cond _ x y => match firstR x with
    | some i => some i
    | none => firstR y
  | .block _ c => firstR c
  | .loop c => firstR c
  | .scope c => firstR c
  | _ => none
/-- The body of the loop that begins with region k. -/
def loopAt (k : Nat) : Code → Option Code
  | .seq x y => match loopAt k x with
    | some c => some c
    | none => loopAt k y
  | .cond _ x y => match loopAt k x with
    | some c => some c
    | none => loopAt k y
  | .block _ c => loopAt k c
  | .scope c => loopAt k c
  | .loop c => if firstR c = some k then some c else loopAt k c
  | _ => none
def bodyAt (P : Program) (f k : Nat) : Code :=
  match P.funcs[f]? with
  | some fn => match fn.body with
    | some c => (loopAt k c).getD .skip
    | none => .skip
  | none => .skip

/-- What a loop comes to, from σ on. -/
def LoopTo (P : Program) (c : Code) (σ : St) (e : Ex) (σ' : St) : Prop := ∀ Q : Exit → St → Prop, Q e.up σ' → T P (.loop c) σ Q

structure Sum where
  key : Nat
  keep : List Nat
  e : Ex
  out : St
def sumAt : List Sum → Option Nat → Option Sum
  | [], _ => none
  | s :: r, k => if some s.key = k then some s else sumAt r k

def loopS (f : St → Option (Ex × St × List Prop)) : Nat → St → Option (Ex × St × List Prop)
  | 0, _ => none
  | n + 1, s => match f s with
    | some (.normal, s', cs) => match loopS f n s' with
      | some (e, t, ds) => some (e, t, cs ++ ds)
      | none => none
    | r => r

/-! ### Results with conditions -/
def isVd (get : Nat → Option Blk) (k : Nat) : Bool :=
  match get k with
  | some b => match b.items with
    | [.vd _] => true
    | _ => false
  | none => false
def outIS (get : Nat → Option Blk) : IV → Option (IV × List Use × List Prop)
  | .sl k off len =>
    match get k, rowOfS (isVd get k) get k off len with
    | some b, some (r, cs) => let own := b.own && off == 0
      if b.own && outOk own r then some (outR own r, [⟨k, off, len, own⟩], cs) else none
    | _, _ => none
  | i => (outI get i).map fun q => (q.1, q.2, [])
theorem outIS_ok {get : Nat → Option Blk} {i j : IV} {us : List Use} {cs : List Prop} (h : outIS get i = some (j, us, cs)) (hc : AllP cs) : outI get i = some (j, us) := by
  unfold outIS at h
  split at h
  · rename_i k off len
    split at h
    case h_2 => simp at h
    rename_i b r cs' hb hr
    simp only at h
    split at h <;> simp at h
    rename_i ho
    obtain ⟨rfl, rfl, rfl⟩ := h
    simp only [outI, hb, rowOfS_ok hr hc]
    rw [if_pos ho]
  · cases ha : outI get i with
    | none => simp [ha] at h
    | some q => simp [ha] at h; obtain ⟨rfl, rfl, rfl⟩ := h; rfl
def outLS (get : Nat → Option Blk) : List IV → Option (List IV × List Use × List Prop)
  | [] => some ([], [], [])
  | i :: r => match outIS get i, outLS get r with
    | some x, some l => some (x.1 :: l.1, x.2.1 ++ l.2.1, x.2.2 ++ l.2.2)
    | _, _ => none
theorem outLS_ok {get : Nat → Option Blk} : ∀ {l m : List IV} {us : List Use} {cs : List Prop}, outLS get l = some (m, us, cs) → AllP cs → outL get l = some (m, us)
  | [], m, us, cs, h, _ => by simp [outLS] at h; obtain ⟨rfl, rfl, rfl⟩ := h; rfl
  | i :: r, m, us, cs, h, hc => by
    simp only [outLS] at h
    split at h
    case h_2 => simp at h
    rename_i x l hx hl
    simp at h
    obtain ⟨rfl, rfl, rfl⟩ := h
    obtain ⟨q1, q2⟩ := AllP_append hc
    simp only [outL, outIS_ok hx q1, outLS_ok hl q2]
def outTS (get : Nat → Option Blk) : List (Bool × List IV) → Option (List (Bool × List IV) × List Use × List Prop)
  | [] => some ([], [], [])
  | p :: r => match outLS get p.2, outTS get r with
    | some x, some l => some ((p.1, x.1) :: l.1, x.2.1 ++ l.2.1, x.2.2 ++ l.2.2)
    | _, _ => none
theorem outTS_ok {get : Nat → Option Blk} : ∀ {l m : List (Bool × List IV)} {us : List Use} {cs : List Prop}, outTS get l = some (m, us, cs) → AllP cs → outT get l = some (m, us)
  | [], m, us, cs, h, _ => by simp [outTS] at h; obtain ⟨rfl, rfl, rfl⟩ := h; rfl
  | p :: r, m, us, cs, h, hc => by
    simp only [outTS] at h
    split at h
    case h_2 => simp at h
    rename_i x l hx hl
    simp at h
    obtain ⟨rfl, rfl, rfl⟩ := h
    obtain ⟨q1, q2⟩ := AllP_append hc
    simp only [outT, outLS_ok hx q1, outTS_ok hl q2]

section
variable (P : Program) (Γ : FuncId → Option CtS) (orc : Nat → Orc) (sums : List Sum) (fuel : Nat)
def evInl (h : Orc) (m : Inl) (ops : Array Oper) (draw : Bool) (s : St) : Option (Ex × St × List Prop) :=
  if draw then none else
  match runS P Γ h s.next seqMask ops (ops.toList.take m.pos) 0 s.slots s.heap with
  | none => none
  | some q =>
    match ops[m.pos]? with
    | none => none
    | some o =>
      match inlCall o q.1 with
      | none => none
      | some (g, args, dst) =>
        match runS P Γ h m.next seqMask ops (ops.toList.drop (m.pos + 1)) (m.pos + 1) (putS q.1 dst m.res) m.heap with
        | none => none
        | some p => some (.normal, ⟨p.1, p.2.1, m.next + 16 * ops.size⟩, CloTo P g args q.2.1 (s.next + 16 * ops.size) m.res m.heap m.next :: (q.2.2 ++ p.2.2))
def evS : Code → St → Option (Ex × St × List Prop)
  | .skip, s => some (.normal, s, [])
  | .region id ops draw, s => match (orc id).inl with
    | none => (evRS P Γ (orc id) ops draw s).map fun t => (.normal, t.1, t.2)
    | some m => evInl P Γ (orc id) m ops draw s
  | .seq x y, s => match evS x s with
    | some (.normal, s', cs) => match evS y s' with
      | some (e, t, ds) => some (e, t, cs ++ ds)
      | none => none
    | r => r
  | .cond c x y, s => match aeval s.slots c with
    | .val false [.bool true] => evS x s
    | .val false [.bool false] => evS y s
    | _ => none
  | .block id c, s => match evS c s with
    | some (.exit id', s', cs) => if id' = id then some (.normal, s', cs) else some (.exit id', s', cs)
    | r => r
  | .loop c, s => match sumAt sums (firstR c) with
    | some m => match tidyK m.keep s with
      | some s1 => some (m.e, m.out, [LoopTo P c s1 m.e m.out])
      | none => none
    | none => loopS (fun t => evS c t) fuel s
  | .scope c, s => evS c s
  | .exit id, s => some (.exit id, s, [])
  | .label _, s => some (.normal, s, [])
  | .ret, s => some (.ret, s, [])
  | _, _ => none

def roundS (keep : List Nat) (c : Code) (s : St) : Option (Ex × St × List Prop) :=
  match evS P Γ orc sums fuel c s with
  | some (e, t, cs) => (tidyK keep t).map fun u => (e, u, cs)
  | none => none

/-- A function's answer. -/
def fnS (f : FuncId) (ds : List AV) : Option (AV × List Prop) :=
  match P.funcs[f]? with
  | none => none
  | some fn => match fn.body with
    | none => none
    | some c => match evS P Γ orc sums fuel c (entry fn.ntmps ds) with
      | some (.exit _, _, _) => none
      | some (_, σ, cs) => match ares P σ fn.results.toList with
        | some m => match outTS (hget σ.heap) m with
          | some (o, us, c2) => if usesOK us then some (aresV o, cs ++ c2) else none
          | none => none
        | none => none
      | none => none
end

section
variable {P : Program} {Γ : FuncId → Option CtS} {orc : Nat → Orc} {sums : List Sum} {fuel : Nat}

theorem evInl_ok (hΓ : GSound P (upG Γ)) {h : Orc} {m : Inl} {id : Nat} {ops : Array Oper} {draw : Bool} {σ σ' : St} {e : Ex} {cs : List Prop} {Q : Exit → St → Prop} (he : evInl P Γ h m ops draw σ = some (e, σ', cs)) (hc : AllP cs) (hq : Q e.up σ') : T P (.region id ops draw) σ Q := by
  unfold evInl at he
  split at he
  · simp at he
  rename_i hd
  split at he
  · simp at he
  rename_i q hq1
  split at he
  · simp at he
  rename_i o ho
  split at he
  · simp at he
  rename_i g args dst hl
  split at he
  · simp at he
  rename_i p hp
  simp only [Option.some.injEq, Prod.mk.injEq] at he
  obtain ⟨rfl, rfl, rfl⟩ := he
  obtain ⟨c1, c2⟩ := hc
  obtain ⟨c2, c3⟩ := AllP_append c2
  have hd' : draw = false := by simpa using hd
  subst hd'
  exact T.regionInl hΓ (q := (q.1, q.2.1)) (p := (p.1, p.2.1)) (runS_ok _ _ _ _ _ hq1 c2) ho hl c1 (runS_ok _ _ _ _ _ hp c3) hq
/-- Code that is evaluated with conditions. -/
theorem T.runS (hΓ : GSound P (upG Γ)) (hm : P.follows .mixedOrders = true) : ∀ (c : Code) {σ σ' : St} {e : Ex} {cs : List Prop} {Q : Exit → St → Prop}, evS P Γ orc sums fuel c σ = some (e, σ', cs) → AllP cs → Q e.up σ' → T P c σ Q := by
  intro c
  induction c with
  | skip => intro σ σ' e cs Q h _ hq; simp [evS] at h; obtain ⟨rfl, rfl, rfl⟩ := h; exact T.skip hq
  | region id ops draw =>
    intro σ σ' e cs Q h hc hq
    simp only [evS] at h
    split at h
    · cases hr : evRS P Γ (orc id) ops draw σ with
      | none => simp [hr] at h
      | some t => simp [hr] at h; obtain ⟨rfl, rfl, rfl⟩ := h; exact T.region hΓ hm (evRS_ok hr hc) hq
    · exact evInl_ok hΓ h hc hq
  | seq x y ihx ihy =>
    intro σ σ' e cs Q h hc hq
    simp only [evS] at h
    refine T.seq ?_
    cases hx : evS P Γ orc sums fuel x σ with
    | none => simp [hx] at h
    | some r =>
      obtain ⟨e1, s1, c1⟩ := r
      rw [hx] at h
      cases e1 with
      | normal =>
        simp only at h
        cases hy : evS P Γ orc sums fuel y s1 with
        | none => simp [hy] at h
        | some r =>
          obtain ⟨e2, s2, c2⟩ := r
          rw [hy] at h
          simp at h
          obtain ⟨rfl, rfl, rfl⟩ := h
          obtain ⟨q1, q2⟩ := AllP_append hc
          exact ihx hx q1 (show T P y s1 Q from ihy hy q2 hq)
      | exit id => simp at h; obtain ⟨rfl, rfl, rfl⟩ := h; exact ihx hx hc hq
      | ret => simp at h; obtain ⟨rfl, rfl, rfl⟩ := h; exact ihx hx hc hq
  | cond c x y ihx ihy =>
    intro σ σ' e cs Q h hc hq
    simp only [evS] at h
    split at h
    · rename_i hb; exact T.cond (b := true) hb (ihx h hc hq)
    · rename_i hb; exact T.cond (b := false) hb (ihy h hc hq)
    · simp at h
  | block id c ih =>
    intro σ σ' e cs Q h hc hq
    simp only [evS] at h
    refine T.block ?_
    cases hx : evS P Γ orc sums fuel c σ with
    | none => simp [hx] at h
    | some r =>
      obtain ⟨e1, s1, c1⟩ := r
      rw [hx] at h
      cases e1 with
      | normal => simp at h; obtain ⟨rfl, rfl, rfl⟩ := h; exact ih hx hc hq
      | exit id' =>
        simp only at h
        split at h
        · rename_i he
          simp at h
          obtain ⟨rfl, rfl, rfl⟩ := h
          refine ih hx hc ?_
          show (if id' = id then Q .normal s1 else Q (.exit id') s1)
          rw [if_pos he]; exact hq
        · rename_i he
          simp at h
          obtain ⟨rfl, rfl, rfl⟩ := h
          refine ih hx hc ?_
          show (if id' = id then Q .normal s1 else Q (.exit id') s1)
          rw [if_neg he]; exact hq
      | ret => simp at h; obtain ⟨rfl, rfl, rfl⟩ := h; exact ih hx hc hq
  | loop c ih =>
    intro σ σ' e cs Q h hc hq
    simp only [evS] at h
    split at h
    · rename_i m hm
      split at h
      case h_2 => simp at h
      rename_i s1 hs1
      simp at h
      obtain ⟨rfl, rfl, rfl⟩ := h
      exact T.weak (Weak_tidyK hs1) (hc.1 Q hq)
    · refine T.loopI (fun n s => ∃ cs, loopS (fun t => evS P Γ orc sums fuel c t) n s = some (e, σ', cs) ∧ AllP cs) ⟨fuel, σ, Weak.refl σ, cs, h, hc⟩ fun n s hI => ?_
      obtain ⟨cs, hI, hcs⟩ := hI
      cases n with
      | zero => simp [loopS] at hI
      | succ n =>
        simp only [loopS] at hI
        split at hI
        · rename_i s1 c1 hs1
          split at hI
          case h_2 => simp at hI
          rename_i e2 t2 c2 h2
          simp at hI
          obtain ⟨rfl, rfl, rfl⟩ := hI
          obtain ⟨q1, q2⟩ := AllP_append hcs
          exact ih hs1 q1 ⟨n, s1, Nat.lt_succ_self n, Weak.refl s1, c2, h2, q2⟩
        · rename_i hne
          cases e with
          | normal => exact absurd hI (hne σ' cs)
          | exit id => exact ih hI hcs hq
          | ret => exact ih hI hcs hq
  | scope c ih =>
    intro σ σ' e cs Q h hc hq
    simp only [evS] at h
    refine T.scope (ih h hc ?_)
    cases e <;> exact hq
  | exit id => intro σ σ' e cs Q h _ hq; simp [evS] at h; obtain ⟨rfl, rfl, rfl⟩ := h; exact T.exit hq
  | label l => intro σ σ' e cs Q h _ hq; simp [evS] at h; obtain ⟨rfl, rfl, rfl⟩ := h; exact T.label hq
  | ret => intro σ σ' e cs Q h _ hq; simp [evS] at h; obtain ⟨rfl, rfl, rfl⟩ := h; exact T.ret hq
  | goto l => intro σ σ' e cs Q h; simp [evS] at h
  | rangeFunc f p a b => intro σ σ' e cs Q h; simp [evS] at h
  | refuse w => intro σ σ' e cs Q h; simp [evS] at h

/-- A LOOP, BY AN INVARIANT: each round leads from one state of the family to another one, nearer to the end, or to where the loop is left. -/
theorem LoopTo.intro (hΓ : GSound P (upG Γ)) (hm : P.follows .mixedOrders = true) {c : Code} {e : Ex} {σ' : St} {α : Type} (inv : α → St) (ok : α → Prop) (meas : α → Nat) (he : e ≠ .normal)
    (step : ∀ a, ok a → (∃ orc sums fuel keep cs a', roundS P Γ orc sums fuel keep c (inv a) = some (.normal, inv a', cs) ∧ AllP cs ∧ ok a' ∧ meas a' < meas a) ∨
      (∃ orc sums fuel keep cs, roundS P Γ orc sums fuel keep c (inv a) = some (e, σ', cs) ∧ AllP cs)) (a : α) (ha : ok a) : LoopTo P c (inv a) e σ' := by
  intro Q hq
  refine T.loopI (fun n s => ∃ a, ok a ∧ s = inv a ∧ meas a = n) ⟨meas a, inv a, Weak.refl _, a, ha, rfl, rfl⟩ ?_
  rintro n s ⟨a, ha, rfl, rfl⟩
  rcases step a ha with ⟨orc, sums, fuel, keep, cs, a', hr, hc, hok, hlt⟩ | ⟨orc, sums, fuel, keep, cs, hr, hc⟩
  · unfold roundS at hr
    split at hr
    case h_2 => simp at hr
    rename_i e1 t1 c1 h1
    cases ht : tidyK keep t1 with
    | none => simp [ht] at hr
    | some u =>
      simp [ht] at hr
      obtain ⟨rfl, rfl, rfl⟩ := hr
      exact T.runS hΓ hm c h1 hc ⟨meas a', inv a', hlt, Weak_tidyK ht, a', hok, rfl, rfl⟩
  · unfold roundS at hr
    split at hr
    case h_2 => simp at hr
    rename_i e1 t1 c1 h1
    cases ht : tidyK keep t1 with
    | none => simp [ht] at hr
    | some u =>
      simp [ht] at hr
      obtain ⟨rfl, rfl, rfl⟩ := hr
      intro base ρ a w hrel
      refine wp_mono (T.runS (Q := fun e' s => e' = e1.up ∧ s = t1) hΓ hm c h1 hc ⟨rfl, rfl⟩ base ρ a w hrel) ?_
      rintro e' a' w' ⟨s, ρ', ⟨rfl, rfl⟩, hrel'⟩
      obtain ⟨ρ2, hrel2⟩ := Weak_tidyK ht base ρ' a' w' hrel'
      refine ⟨u, ρ2, ?_, hrel2⟩
      cases e1 with
      | normal => exact absurd rfl he
      | exit id => exact hq
      | ret => exact hq

theorem calls_of_fnS (hΓ : GSound P (upG Γ)) (hm : P.follows .mixedOrders = true) {f : FuncId} {ds : List AV} {r : AV} {cs : List Prop} (h : fnS P Γ orc sums fuel f ds = some (r, cs)) (hc : AllP cs)
    (w : World) (vals : List Value) (hv : F2 (DV w) ds vals) : Calls P f vals.toArray w fun e w' => ∃ v, e = .returned v ∧ Below w.heap.size w w' ∧ ResOk w.heap.size w' r v := by
  unfold fnS at h
  split at h
  · simp at h
  rename_i fn hf
  split at h
  · simp at h
  rename_i c hb
  have fin : ∀ (e : Ex) (σ : St) (cs' : List Prop), evS P Γ orc sums fuel c (entry fn.ntmps ds) = some (e, σ, cs') → (e.up = .normal ∨ e.up = .ret) →
      (match ares P σ fn.results.toList with
        | some m => match outTS (hget σ.heap) m with
          | some (o, us, c2) => if usesOK us then some (aresV o, cs' ++ c2) else none
          | none => none
        | none => none) = some (r, cs) → Calls P f vals.toArray w fun e w' => ∃ v, e = .returned v ∧ Below w.heap.size w w' ∧ ResOk w.heap.size w' r v := by
    intro e σ cs' he hup hq
    split at hq
    case h_2 => simp at hq
    rename_i m hm1
    split at hq
    case h_2 => simp at hq
    rename_i o us c2 ho
    split at hq <;> simp at hq
    rename_i hu
    obtain ⟨h1, rfl⟩ := hq
    obtain ⟨q1, q2⟩ := AllP_append hc
    exact calls_of_T hf hb (T.runS hΓ hm c he q1 ⟨hup, m, m, o, us, hm1, TSame.rfl', outTS_ok ho q2, hu, h1⟩) w vals hv
  split at h
  · simp at h
  · rename_i e σ cs' hne he
    refine fin e σ cs' he ?_ h
    cases e with
    | normal => exact .inl rfl
    | ret => exact .inr rfl
    | exit id => exact absurd rfl (hne id)
  · simp at h

/-- THE CONTRACT, from the evaluator's answers. -/
theorem FnS_of_fnS (hΓ : GSound P (upG Γ)) (hm : P.follows .mixedOrders = true) {f : FuncId} {spec : List AV → Option (AV × List Prop)}
    (h : ∀ ds r cs, spec ds = some (r, cs) → AllP cs → ∃ orc sums fuel cs', fnS P Γ orc sums fuel f ds = some (r, cs') ∧ AllP cs') : FnS P f spec :=
  FnS_intro fun ds r cs hs hc w vals hv => let ⟨_, _, _, _, h1, h2⟩ := h ds r cs hs hc; calls_of_fnS hΓ hm h1 h2 w vals hv
end
end Go.Ev
