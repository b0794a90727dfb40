/- Texts put together: EvA. Own work. -/
import Derived.Laws.AppendOwn
import Derived.Laws.MakeOwn
import Derived.Laws.CopyOwn
import Derived.Below
import Derived.Orders
import Derived.KernelRfl
/- Abstract values, blocks of memory as lists of items, and what they stand for. Own work; no statement of the seat is proved here. -/
namespace Go.Ev
open Go.RowKit

/-- Four words, the lowest first. -/
structure N4 where
  w0 : BitVec 64
  w1 : BitVec 64
  w2 : BitVec 64
  w3 : BitVec 64

def N4.get (a : N4) : Nat → BitVec 64
  | 0 => a.w0
  | 1 => a.w1
  | 2 => a.w2
  | _ => a.w3
def N4.set (a : N4) (j : Nat) (x : BitVec 64) : N4 :=
  match j with
  | 0 => { a with w0 := x }
  | 1 => { a with w1 := x }
  | 2 => { a with w2 := x }
  | _ => { a with w3 := x }
def N4.zero : N4 := ⟨0, 0, 0, 0⟩
def N4.words (a : N4) : List (BitVec 64) := [a.w0, a.w1, a.w2, a.w3]

/-- The digits to the base 65536 of a number, sixteen of them. -/
def dig16 (x i : Nat) : Int := ((x / 65536 ^ i % 65536 : Nat) : Int)
def digs16 (x : Nat) : List Int := (List.range 16).map (dig16 x)

/-- The digits of a number to the base 256, the lowest first, no nought at the top. -/
def dg (n : Nat) : List Int := if _h : n = 0 then [] else ((n % 256 : Nat) : Int) :: dg (n / 256)
termination_by n
decreasing_by omega

/-- Items: what stands in one cell, or in several cells one behind the other. The last six are data that lies elsewhere, read as a list: they occur in contracts alone. -/
inductive IV where
  | bool (b : Bool)
  | i64 (n : Int)
  | u8 (x : BitVec 8)
  | u16 (x : BitVec 16)
  | u32 (x : BitVec 32)
  | u64 (x : BitVec 64)
  | str (s : List (BitVec 8))
  | nil
  | sl (k off len : Nat)
  | ptr (k off : Nat)
  | gp (g off : Nat)
  | n4 (a : N4)
  | vi (n : Nat) (l : List Int)
  | v8 (n : Nat) (l : List (BitVec 8))
  | v32 (n : Nat) (l : List (BitVec 32))
  | v64 (n : Nat) (l : List (BitVec 64))
  | vn (n : Nat) (l : List N4)
  | fe (x : Nat)
  | vd (x : Nat)
  | dI (l : List Int)
  | dN (x : Nat)
  | d8 (l : List (BitVec 8))
  | d32 (l : List (BitVec 32))
  | d64 (l : List (BitVec 64))
  | dn (l : List N4)
  | r8 (l : List (BitVec 8))
  | dsI (l : List (List Int))
  | ds8 (l : List (List (BitVec 8)))

def IV.size : IV → Nat
  | .n4 _ => 4
  | .vi n _ => n
  | .v8 n _ => n
  | .v32 n _ => n
  | .v64 n _ => n
  | .vn n _ => 4 * n
  | .fe _ => 16
  | .vd x => (dg x).length
  | _ => 1

def lsize : List IV → Nat
  | [] => 0
  | i :: r => i.size + lsize r

/-- What stands in a slot. -/
inductive AV where
  | any
  | val (g : Bool) (l : List IV)
  | tup (l : List (Bool × List IV))
  | fn (f : FuncId) (first : List (Bool × List IV)) (cap : List (Nat × Nat))

/-- Two lists, element by element. -/
def F2 {α β : Type} (R : α → β → Prop) : List α → List β → Prop
  | [], [] => True
  | a :: l, b :: m => R a b ∧ F2 R l m
  | _, _ => False
theorem F2.imp {α β : Type} {R S : α → β → Prop} (h : ∀ a b, R a b → S a b) : ∀ {l : List α} {m : List β}, F2 R l m → F2 S l m
  | [], [], _ => trivial
  | _ :: _, _ :: _, ⟨a, b⟩ => ⟨h _ _ a, F2.imp h b⟩
theorem F2.length {α β : Type} {R : α → β → Prop} : ∀ {l : List α} {m : List β}, F2 R l m → l.length = m.length
  | [], [], _ => rfl
  | _ :: _, _ :: _, ⟨_, b⟩ => congrArg (· + 1) (F2.length b)
theorem F2.get {α β : Type} {R : α → β → Prop} : ∀ {l : List α} {m : List β}, F2 R l m → ∀ {i : Nat} {a : α}, l[i]? = some a → ∃ b, m[i]? = some b ∧ R a b
  | a :: _, b :: _, ⟨h, _⟩, 0, _, e => by simp at e; subst e; exact ⟨b, rfl, h⟩
  | _ :: _, _ :: _, ⟨_, h⟩, i + 1, _, e => F2.get h (by simpa using e)
theorem F2.set {α β : Type} {R : α → β → Prop} : ∀ {l : List α} {m : List β}, F2 R l m → ∀ (i : Nat) {a : α} {b : β}, R a b → F2 R (l.set i a) (m.set i b)
  | [], [], _, _, _, _, _ => trivial
  | _ :: _, _ :: _, ⟨_, h⟩, 0, _, _, r => ⟨r, h⟩
  | _ :: _, _ :: _, ⟨h0, h⟩, i + 1, _, _, r => ⟨h0, F2.set h i r⟩
theorem F2.append {α β : Type} {R : α → β → Prop} : ∀ {l : List α} {m : List β}, F2 R l m → ∀ {l' : List α} {m' : List β}, F2 R l' m' → F2 R (l ++ l') (m ++ m')
  | [], [], _, _, _, h => h
  | _ :: _, _ :: _, ⟨a, b⟩, _, _, h => ⟨a, F2.append b h⟩

def sc (i : IV) : AV := .val false [i]

/-- Where a block of the evaluator's lies: not yet anywhere; nowhere (it is empty); from cell `off` of a block on, which has `size` cells. -/
structure Loc where
  block : Nat
  off : Nat
  size : Nat
inductive Pl where
  | un
  | ph
  | at (L : Loc)

def byteVal (x : BitVec 8) : Value := .int .u8 (x.toNat : Int)
def half16 (x : BitVec 16) : Value := .int .u16 (x.toNat : Int)
def wordVal (x : BitVec 64) : Value := .int .u64 (x.toNat : Int)
def w32Val (x : BitVec 32) : Value := .int .u32 (x.toNat : Int)
def intVal (n : Int) : Value := .int .i64 n
def strOf (s : List (BitVec 8)) : ByteArray := ⟨(s.map UInt8.ofBitVec).toArray⟩
def n4Vals (a : N4) : List Value := [wordVal a.w0, wordVal a.w1, wordVal a.w2, wordVal a.w3]

/-- The cells of an item that refers to nothing. -/
def PCells : IV → Option (List Value)
  | .bool b => some [.bool b]
  | .i64 n => some [intVal n]
  | .u8 x => some [byteVal x]
  | .u16 x => some [half16 x]
  | .u32 x => some [w32Val x]
  | .u64 x => some [wordVal x]
  | .str s => some [.string (strOf s)]
  | .nil => some [.slice none 0 0]
  | .n4 a => some (n4Vals a)
  | .vi n l => if l.length = n then some (l.map intVal) else none
  | .v8 n l => if l.length = n then some (l.map byteVal) else none
  | .v32 n l => if l.length = n then some (l.map w32Val) else none
  | .v64 n l => if l.length = n then some (l.map wordVal) else none
  | .gp g off => some [.pointer (some ⟨g, off, none⟩)]
  | .vn n l => if l.length = n then some (l.flatMap n4Vals) else none
  | .fe x => some ((digs16 x).map intVal)
  | .vd x => some ((dg x).map intVal)
  | _ => none

/-- An item's cells. -/
def ICells (ρ : Nat → Pl) : IV → List Value → Prop
  | .sl k off len, vs =>
    (∃ L cap, ρ k = .at L ∧ len ≤ cap ∧ off + cap ≤ L.size ∧ vs = [.slice (some ⟨L.block, L.off + off, none⟩) len cap]) ∨
    (len = 0 ∧ ρ k ≠ .un ∧ ∃ a, vs = [.slice a 0 0])
  | .ptr k off, vs => ∃ L, ρ k = .at L ∧ vs = [.pointer (some ⟨L.block, L.off + off, none⟩)]
  | i, vs => PCells i = some vs

def LCells (ρ : Nat → Pl) : List IV → List Value → Prop
  | [], vs => vs = []
  | i :: r, vs => ∃ a b, vs = a ++ b ∧ ICells ρ i a ∧ LCells ρ r b

/-- A value of items: an aggregate, or one cell. -/
def VR1 (ρ : Nat → Pl) (x : Bool × List IV) (v : Value) : Prop :=
  ∃ vs, LCells ρ x.2 vs ∧ (if x.1 then v = .agg vs.toArray else vs = [v])

def VRepr (ρ : Nat → Pl) : AV → Value → Prop
  | .any, _ => True
  | .val g l, v => VR1 ρ (g, l) v
  | .tup l, v => ∃ vs, v = .tuple vs.toArray ∧ F2 (VR1 ρ) l vs
  | .fn f first cap, v => ∃ fs cs, v = .func (.func f) fs.toArray cs.toArray ∧ F2 (VR1 ρ) first fs ∧ F2 (fun p c => ICells ρ (.ptr p.1 p.2) [c]) cap cs

theorem n4Vals_length (a : N4) : (n4Vals a).length = 4 := rfl

theorem PCells_length {i : IV} {vs : List Value} (h : PCells i = some vs) : vs.length = i.size := by
  cases i <;> simp only [PCells, Option.some.injEq, IV.size] at h ⊢ <;> try (subst h; rfl)
  case vi => split at h <;> simp at h; subst h; simp; assumption
  case v8 => split at h <;> simp at h; subst h; simp; assumption
  case v32 => split at h <;> simp at h; subst h; simp; assumption
  case v64 => split at h <;> simp at h; subst h; simp; assumption
  case vn n l =>
    split at h <;> simp at h
    subst h
    rename_i hn
    subst hn
    induction l with
    | nil => rfl
    | cons a l ih => simp only [List.flatMap_cons, List.length_append, ih, n4Vals_length, List.length_cons]; omega
  all_goals (first | (subst h; simp) | (simp at h; done))

theorem ICells_length {ρ : Nat → Pl} {i : IV} {vs : List Value} (h : ICells ρ i vs) : vs.length = i.size := by
  cases i
  case sl => rcases h with ⟨L, cap, _, _, _, rfl⟩ | ⟨_, _, a, rfl⟩ <;> rfl
  case ptr => obtain ⟨L, _, rfl⟩ := h; rfl
  all_goals exact PCells_length h

theorem LCells_length {ρ : Nat → Pl} : ∀ {l : List IV} {vs : List Value}, LCells ρ l vs → vs.length = lsize l
  | [], _, h => by rw [h]; rfl
  | _ :: _, _, ⟨a, b, hab, ha, hb⟩ => by rw [hab, List.length_append, ICells_length ha, LCells_length hb]; rfl

/-- More places known: what was represented still is. -/
def Ext (ρ ρ' : Nat → Pl) : Prop := ∀ k, ρ k ≠ .un → ρ' k = ρ k
theorem Ext.refl (ρ : Nat → Pl) : Ext ρ ρ := fun _ _ => rfl
theorem Ext.trans {ρ ρ' ρ'' : Nat → Pl} (h : Ext ρ ρ') (h' : Ext ρ' ρ'') : Ext ρ ρ'' := fun k hk => by
  rw [h' k (by rw [h k hk]; exact hk), h k hk]

theorem ICells.ext {ρ ρ' : Nat → Pl} (he : Ext ρ ρ') {i : IV} {vs : List Value} (h : ICells ρ i vs) : ICells ρ' i vs := by
  cases i
  case sl k off len =>
    rcases h with ⟨L, cap, hk, h⟩ | ⟨h0, hk, h⟩
    · exact .inl ⟨L, cap, by rw [he k (by rw [hk]; simp)]; exact hk, h⟩
    · exact .inr ⟨h0, by rw [he k hk]; exact hk, h⟩
  case ptr k off =>
    obtain ⟨L, hk, h⟩ := h
    exact ⟨L, by rw [he k (by rw [hk]; simp)]; exact hk, h⟩
  all_goals exact h
theorem LCells.ext {ρ ρ' : Nat → Pl} (he : Ext ρ ρ') : ∀ {l : List IV} {vs : List Value}, LCells ρ l vs → LCells ρ' l vs
  | [], _, h => h
  | _ :: _, _, ⟨a, b, hab, ha, hb⟩ => ⟨a, b, hab, ha.ext he, LCells.ext he hb⟩
theorem VR1.ext {ρ ρ' : Nat → Pl} (he : Ext ρ ρ') {x : Bool × List IV} {v : Value} (h : VR1 ρ x v) : VR1 ρ' x v :=
  let ⟨vs, h1, h2⟩ := h; ⟨vs, h1.ext he, h2⟩
theorem VRepr.ext {ρ ρ' : Nat → Pl} (he : Ext ρ ρ') {x : AV} {v : Value} (h : VRepr ρ x v) : VRepr ρ' x v := by
  cases x
  case any => trivial
  case val g l => exact VR1.ext he h
  case tup l => obtain ⟨vs, h1, h2⟩ := h; exact ⟨vs, h1, F2.imp (fun _ _ => VR1.ext he) h2⟩
  case fn f first cap =>
    obtain ⟨fs, cs, h1, h2, h3⟩ := h
    exact ⟨fs, cs, h1, F2.imp (fun _ _ => VR1.ext he) h2, F2.imp (fun _ _ => ICells.ext he) h3⟩

/-- No cell of an item holds an aggregate or a tuple. -/
theorem PCells_one {i : IV} {vs : List Value} (h : PCells i = some vs) : ∀ v ∈ vs, v.oneCell' = true := by
  intro v hv
  cases i <;> simp only [PCells, Option.some.injEq] at h
  case n4 a => subst h; simp [n4Vals, wordVal] at hv; rcases hv with rfl | rfl | rfl | rfl <;> rfl
  case vi => split at h <;> simp at h; subst h; simp at hv; obtain ⟨a, _, rfl⟩ := hv; rfl
  case v8 => split at h <;> simp at h; subst h; simp at hv; obtain ⟨a, _, rfl⟩ := hv; rfl
  case v32 => split at h <;> simp at h; subst h; simp at hv; obtain ⟨a, _, rfl⟩ := hv; rfl
  case v64 => split at h <;> simp at h; subst h; simp at hv; obtain ⟨a, _, rfl⟩ := hv; rfl
  case vn => split at h <;> simp at h; subst h; simp at hv; obtain ⟨a, _, hv⟩ := hv; simp [n4Vals, wordVal] at hv; rcases hv with rfl | rfl | rfl | rfl <;> rfl
  case fe => subst h; simp at hv; obtain ⟨a, _, rfl⟩ := hv; rfl
  case vd => subst h; simp at hv; obtain ⟨a, _, rfl⟩ := hv; rfl
  all_goals (first | (subst h; simp at hv; subst hv; rfl) | (simp at h; done))
theorem ICells_one {ρ : Nat → Pl} {i : IV} {vs : List Value} (h : ICells ρ i vs) : ∀ v ∈ vs, v.oneCell' = true := by
  cases i
  case sl => rcases h with ⟨L, cap, _, _, _, rfl⟩ | ⟨_, _, a, rfl⟩ <;> simp [Value.oneCell']
  case ptr => obtain ⟨L, _, rfl⟩ := h; simp [Value.oneCell']
  all_goals exact PCells_one h
theorem LCells_one {ρ : Nat → Pl} : ∀ {l : List IV} {vs : List Value}, LCells ρ l vs → ∀ v ∈ vs, v.oneCell' = true
  | [], _, h => by rw [h]; simp
  | _ :: _, _, ⟨a, b, hab, ha, hb⟩ => by
    intro v hv
    rw [hab, List.mem_append] at hv
    rcases hv with hv | hv
    · exact ICells_one ha v hv
    · exact LCells_one hb v hv

theorem LCells_append {ρ : Nat → Pl} : ∀ {l m : List IV} {vs us : List Value}, LCells ρ l vs → LCells ρ m us → LCells ρ (l ++ m) (vs ++ us)
  | [], _, _, _, h, h' => by rw [h]; exact h'
  | _ :: _, _, _, _, ⟨a, b, hab, ha, hb⟩, h' => ⟨a, b ++ _, by rw [hab, List.append_assoc], ha, LCells_append hb h'⟩
theorem LCells_single {ρ : Nat → Pl} {i : IV} {vs : List Value} (h : ICells ρ i vs) : LCells ρ [i] vs := ⟨vs, [], by simp, h, rfl⟩
theorem LCells_of_single {ρ : Nat → Pl} {i : IV} {vs : List Value} (h : LCells ρ [i] vs) : ICells ρ i vs := by
  obtain ⟨a, b, hab, ha, hb⟩ := h
  rw [hb, List.append_nil] at hab
  rw [hab]; exact ha

/-! ### One cell -/
def cellIn : IV → Nat → Option IV
  | .n4 a, j => some (.u64 (a.get j))
  | .vi _ l, j => some (.i64 (l.getD j 0))
  | .v8 _ l, j => some (.u8 (l.getD j 0))
  | .v32 _ l, j => some (.u32 (l.getD j 0))
  | .v64 _ l, j => some (.u64 (l.getD j 0))
  | .vn _ l, j => some (.u64 ((l.getD (j / 4) N4.zero).get (j % 4)))
  | .fe x, j => some (.i64 (dig16 x j))
  | .vd x, j => some (.i64 ((dg x).getD j 0))
  | i, _ => some i

def getCell : List IV → Nat → Option IV
  | [], _ => none
  | i :: r, off => if off < i.size then cellIn i off else getCell r (off - i.size)

def single : IV → Bool
  | .n4 _ | .vi .. | .v8 .. | .v32 .. | .v64 .. | .vn .. | .fe _ | .vd _ => false
  | _ => true

def upIn : IV → Nat → IV → Option IV
  | .n4 a, j, .u64 x => some (.n4 (a.set j x))
  | .vi n l, j, .i64 x => some (.vi n (l.set j x))
  | .v8 n l, j, .u8 x => some (.v8 n (l.set j x))
  | .v32 n l, j, .u32 x => some (.v32 n (l.set j x))
  | .v64 n l, j, .u64 x => some (.v64 n (l.set j x))
  | .fe y, j, .i64 x => some (.vi 16 ((digs16 y).set j x))
  | i, _, x => if single i && single x then some x else none

def setCell : List IV → Nat → IV → Option (List IV)
  | [], _, _ => none
  | i :: r, off, x => if off < i.size then (upIn i off x).map (· :: r) else (setCell r (off - i.size) x).map (i :: ·)

theorem n4_get (a : N4) (j : Nat) (h : j < 4) : (n4Vals a)[j]? = some (wordVal (a.get j)) := by
  match j, h with
  | 0, _ => rfl
  | 1, _ => rfl
  | 2, _ => rfl
  | 3, _ => rfl

theorem n4_set (a : N4) (j : Nat) (x : BitVec 64) (h : j < 4) : n4Vals (a.set j x) = (n4Vals a).set j (wordVal x) := by
  match j, h with
  | 0, _ => rfl
  | 1, _ => rfl
  | 2, _ => rfl
  | 3, _ => rfl

theorem flat_get : ∀ (l : List N4) (j : Nat), j < 4 * l.length → (l.flatMap n4Vals)[j]? = some (wordVal ((l.getD (j / 4) N4.zero).get (j % 4)))
  | [], j, h => by simp at h
  | a :: l, j, h => by
    rw [List.flatMap_cons]
    by_cases hj : j < 4
    · rw [List.getElem?_append_left (by rw [n4Vals_length]; exact hj), n4_get a j hj]
      have : j / 4 = 0 := by omega
      have h2 : j % 4 = j := by omega
      simp [this, h2]
    · rw [List.getElem?_append_right (by rw [n4Vals_length]; omega), n4Vals_length, flat_get l (j - 4) (by simp at h; omega)]
      have : j / 4 = (j - 4) / 4 + 1 := by omega
      have h2 : j % 4 = (j - 4) % 4 := by omega
      simp [this, h2]

theorem cellIn_ok {ρ : Nat → Pl} {i x : IV} {j : Nat} {vs : List Value} (h : ICells ρ i vs) (hj : j < i.size) (hc : cellIn i j = some x) :
    ∃ v, vs[j]? = some v ∧ ICells ρ x [v] := by
  cases i
  case n4 a =>
    simp only [cellIn, Option.some.injEq] at hc
    subst hc
    simp only [ICells, PCells, Option.some.injEq] at h
    subst h
    exact ⟨_, n4_get a j hj, rfl⟩
  case vi n l =>
    simp only [cellIn, Option.some.injEq] at hc
    subst hc
    simp only [ICells, PCells] at h
    split at h <;> simp at h
    subst h
    rename_i hn
    simp only [IV.size] at hj
    have : j < l.length := by omega
    exact ⟨intVal l[j], by simp [this], by simp [ICells, PCells, this]⟩
  case v8 n l =>
    simp only [cellIn, Option.some.injEq] at hc
    subst hc
    simp only [ICells, PCells] at h
    split at h <;> simp at h
    subst h
    rename_i hn
    simp only [IV.size] at hj
    have : j < l.length := by omega
    exact ⟨byteVal l[j], by simp [this], by simp [ICells, PCells, this]⟩
  case v32 n l =>
    simp only [cellIn, Option.some.injEq] at hc
    subst hc
    simp only [ICells, PCells] at h
    split at h <;> simp at h
    subst h
    rename_i hn
    simp only [IV.size] at hj
    have : j < l.length := by omega
    exact ⟨w32Val l[j], by simp [this], by simp [ICells, PCells, this]⟩
  case v64 n l =>
    simp only [cellIn, Option.some.injEq] at hc
    subst hc
    simp only [ICells, PCells] at h
    split at h <;> simp at h
    subst h
    rename_i hn
    simp only [IV.size] at hj
    have : j < l.length := by omega
    exact ⟨wordVal l[j], by simp [this], by simp [ICells, PCells, this]⟩
  case vn n l =>
    simp only [cellIn, Option.some.injEq] at hc
    subst hc
    simp only [ICells, PCells] at h
    split at h <;> simp at h
    subst h
    rename_i hn
    simp only [IV.size] at hj
    exact ⟨_, flat_get l j (by omega), rfl⟩
  case fe y =>
    simp only [cellIn, Option.some.injEq] at hc
    subst hc
    simp only [ICells, PCells, Option.some.injEq] at h
    subst h
    simp only [IV.size] at hj
    exact ⟨intVal (dig16 y j), by simp [digs16, hj], rfl⟩
  case vd y =>
    simp only [cellIn, Option.some.injEq] at hc
    subst hc
    simp only [ICells, PCells, Option.some.injEq] at h
    subst h
    simp only [IV.size] at hj
    exact ⟨intVal (dg y)[j], by simp [hj], by simp [ICells, PCells, hj]⟩
  all_goals
    simp only [cellIn, Option.some.injEq] at hc
    subst hc
    have hl := ICells_length h
    simp only [IV.size] at hj hl
    obtain rfl : j = 0 := by omega
    match vs, hl with
    | [v], _ => exact ⟨v, rfl, h⟩

theorem getCell_ok {ρ : Nat → Pl} : ∀ {l : List IV} {off : Nat} {x : IV} {vs : List Value}, LCells ρ l vs → getCell l off = some x →
    ∃ v, vs[off]? = some v ∧ ICells ρ x [v]
  | [], _, _, _, _, h => by simp [getCell] at h
  | i :: r, off, x, vs, ⟨a, b, hab, ha, hb⟩, h => by
    have hl := ICells_length ha
    simp only [getCell] at h
    split at h
    · rename_i ho
      obtain ⟨v, h1, h2⟩ := cellIn_ok ha ho h
      exact ⟨v, by rw [hab, List.getElem?_append_left (by omega)]; exact h1, h2⟩
    · rename_i ho
      obtain ⟨v, h1, h2⟩ := getCell_ok hb h
      exact ⟨v, by rw [hab, List.getElem?_append_right (by omega), hl]; exact h1, h2⟩

theorem list_len1 {α : Type} {l : List α} (h : l.length = 1) : ∃ v, l = [v] := by
  match l, h with
  | [v], _ => exact ⟨v, rfl⟩

theorem single_size {i : IV} (h : single i = true) : i.size = 1 := by cases i <;> simp [single] at h <;> rfl

theorem upIn_ok {ρ : Nat → Pl} {i x y : IV} {j : Nat} {vs : List Value} {v : Value} (h : ICells ρ i vs) (hj : j < i.size) (hx : ICells ρ x [v]) (hu : upIn i j x = some y) :
    ICells ρ y (vs.set j v) := by
  have rest : (if single i && single x then some x else none) = some y → ICells ρ y (vs.set j v) := by
    intro h'
    split at h' <;> simp at h'
    rename_i hs
    simp only [Bool.and_eq_true] at hs
    subst h'
    have h1 := single_size hs.1
    obtain ⟨u, rfl⟩ := list_len1 ((ICells_length h).trans h1)
    obtain rfl : j = 0 := by omega
    exact hx
  cases i <;> first | exact rest hu | skip
  case n4 a =>
    cases x <;> first | exact rest hu | skip
    case u64 z =>
      simp only [upIn, Option.some.injEq] at hu
      simp only [ICells, PCells, Option.some.injEq] at h hx
      simp only [List.cons.injEq, and_true] at hx
      subst hu h hx
      exact congrArg some (n4_set a j z hj)
  case vi n l =>
    cases x <;> first | exact rest hu | skip
    case i64 z =>
      simp only [upIn, Option.some.injEq] at hu
      simp only [ICells, PCells] at h hx
      split at h <;> simp at h
      simp at hx
      subst hu h hx
      rename_i hn
      simp [ICells, PCells, hn]
  case v8 n l =>
    cases x <;> first | exact rest hu | skip
    case u8 z =>
      simp only [upIn, Option.some.injEq] at hu
      simp only [ICells, PCells] at h hx
      split at h <;> simp at h
      simp at hx
      subst hu h hx
      rename_i hn
      simp [ICells, PCells, hn]
  case v32 n l =>
    cases x <;> first | exact rest hu | skip
    case u32 z =>
      simp only [upIn, Option.some.injEq] at hu
      simp only [ICells, PCells] at h hx
      split at h <;> simp at h
      simp at hx
      subst hu h hx
      rename_i hn
      simp [ICells, PCells, hn]
  case v64 n l =>
    cases x <;> first | exact rest hu | skip
    case u64 z =>
      simp only [upIn, Option.some.injEq] at hu
      simp only [ICells, PCells] at h hx
      split at h <;> simp at h
      simp at hx
      subst hu h hx
      rename_i hn
      simp [ICells, PCells, hn]
  case fe y' =>
    cases x <;> first | exact rest hu | skip
    case i64 z =>
      simp only [upIn, Option.some.injEq] at hu
      simp only [ICells, PCells, Option.some.injEq] at h hx
      simp at hx
      subst hu h hx
      simp [ICells, PCells, digs16]

theorem setCell_ok {ρ : Nat → Pl} : ∀ {l m : List IV} {off : Nat} {x : IV} {vs : List Value} {v : Value}, LCells ρ l vs → ICells ρ x [v] → setCell l off x = some m →
    off < vs.length ∧ LCells ρ m (vs.set off v)
  | [], _, _, _, _, _, _, _, h => by simp [setCell] at h
  | i :: r, m, off, x, vs, v, ⟨a, b, hab, ha, hb⟩, hx, h => by
    have hl := ICells_length ha
    simp only [setCell] at h
    split at h
    · rename_i ho
      cases hu : upIn i off x with
      | none => simp [hu] at h
      | some y =>
        simp [hu] at h
        subst h
        refine ⟨by rw [hab, List.length_append]; omega, a.set off v, b, ?_, upIn_ok ha ho hx hu, hb⟩
        rw [hab, List.set_append_left _ _ (by omega)]
    · rename_i ho
      cases hu : setCell r (off - i.size) x with
      | none => simp [hu] at h
      | some r' =>
        simp [hu] at h
        subst h
        obtain ⟨h1, h2⟩ := setCell_ok hb hx hu
        refine ⟨by rw [hab, List.length_append]; omega, a, b.set (off - i.size) v, ?_, ha, h2⟩
        rw [hab, List.set_append_right _ _ (by omega), hl]

/-! ### Several cells -/
def partIn : IV → Nat → Nat → Option IV
  | .vi _ l, off, n => some (.vi n ((l.drop off).take n))
  | .v8 _ l, off, n => some (.v8 n ((l.drop off).take n))
  | .v32 _ l, off, n => some (.v32 n ((l.drop off).take n))
  | .v64 _ l, off, n => some (.v64 n ((l.drop off).take n))
  | .vn _ l, off, n => if off % 4 = 0 ∧ n = 4 then some (.n4 (l.getD (off / 4) N4.zero)) else none
  | _, _, _ => none

def takeR : List IV → Nat → Option (List IV)
  | [], n => if n = 0 then some [] else none
  | i :: r, n => if n = 0 then some [] else if i.size ≤ n then (takeR r (n - i.size)).map (i :: ·) else (partIn i 0 n).map ([·])

def getRange : List IV → Nat → Nat → Option (List IV)
  | [], off, n => if off = 0 ∧ n = 0 then some [] else none
  | i :: r, off, n =>
    if off = 0 then takeR (i :: r) n
    else if i.size ≤ off then getRange r (off - i.size) n
    else if off + n ≤ i.size then (partIn i off n).map ([·]) else none

theorem list_drop_take_map {α β : Type} (f : α → β) (l : List α) (off n : Nat) : (((l.drop off).take n).map f) = (((l.map f).drop off).take n) := by
  rw [List.map_take, List.map_drop]

theorem flat_part : ∀ (l : List N4) (q : Nat), q < l.length → ((l.flatMap n4Vals).drop (4 * q)).take 4 = n4Vals (l.getD q N4.zero)
  | [], q, h => by simp at h
  | a :: l, 0, _ => by simp [List.flatMap_cons, n4Vals]
  | a :: l, q + 1, h => by
    rw [List.flatMap_cons, List.drop_append]
    have h1 : (n4Vals a).drop (4 * (q + 1)) = [] := List.drop_eq_nil_of_le (by rw [n4Vals_length]; omega)
    have h2 : 4 * (q + 1) - (n4Vals a).length = 4 * q := by rw [n4Vals_length]; omega
    rw [h1, h2, List.nil_append, flat_part l q (by simpa using h)]
    simp

theorem partIn_ok {ρ : Nat → Pl} {i x : IV} {off n : Nat} {vs : List Value} (h : ICells ρ i vs) (hn : off + n ≤ i.size) (hp : partIn i off n = some x) :
    ICells ρ x ((vs.drop off).take n) := by
  cases i <;> simp only [partIn] at hp <;> first | (simp at hp; done) | skip
  case vi m l =>
    simp only [Option.some.injEq] at hp
    subst hp
    simp only [ICells, PCells] at h
    split at h <;> simp at h
    subst h
    rename_i hm
    simp only [IV.size] at hn
    simp only [ICells, PCells]
    rw [if_pos (by simp; omega), list_drop_take_map]
  case v8 m l =>
    simp only [Option.some.injEq] at hp
    subst hp
    simp only [ICells, PCells] at h
    split at h <;> simp at h
    subst h
    rename_i hm
    simp only [IV.size] at hn
    simp only [ICells, PCells]
    rw [if_pos (by simp; omega), list_drop_take_map]
  case v32 m l =>
    simp only [Option.some.injEq] at hp
    subst hp
    simp only [ICells, PCells] at h
    split at h <;> simp at h
    subst h
    rename_i hm
    simp only [IV.size] at hn
    simp only [ICells, PCells]
    rw [if_pos (by simp; omega), list_drop_take_map]
  case v64 m l =>
    simp only [Option.some.injEq] at hp
    subst hp
    simp only [ICells, PCells] at h
    split at h <;> simp at h
    subst h
    rename_i hm
    simp only [IV.size] at hn
    simp only [ICells, PCells]
    rw [if_pos (by simp; omega), list_drop_take_map]
  case vn m l =>
    split at hp <;> simp at hp
    rename_i hc
    obtain ⟨h4, rfl⟩ := hc
    subst hp
    simp only [ICells, PCells] at h
    split at h <;> simp at h
    subst h
    rename_i hm
    simp only [IV.size] at hn
    have : off = 4 * (off / 4) := by omega
    simp only [ICells, PCells]
    rw [this, flat_part l (off / 4) (by omega)]
    simp

theorem takeR_ok {ρ : Nat → Pl} : ∀ {l m : List IV} {n : Nat} {vs : List Value}, LCells ρ l vs → takeR l n = some m → n ≤ vs.length ∧ LCells ρ m (vs.take n)
  | [], m, n, vs, h, ht => by
    simp only [takeR] at ht
    split at ht <;> simp at ht
    subst ht
    rename_i hn
    subst hn
    exact ⟨Nat.zero_le _, by simp [LCells]⟩
  | i :: r, m, n, vs, ⟨a, b, hab, ha, hb⟩, ht => by
    have hl := ICells_length ha
    simp only [takeR] at ht
    split at ht
    · simp at ht
      subst ht
      rename_i hn
      subst hn
      exact ⟨Nat.zero_le _, by simp [LCells]⟩
    · split at ht
      · rename_i hs
        cases hu : takeR r (n - i.size) with
        | none => simp [hu] at ht
        | some r' =>
          simp [hu] at ht
          subst ht
          obtain ⟨h1, h2⟩ := takeR_ok hb hu
          refine ⟨by rw [hab, List.length_append]; omega, a, b.take (n - i.size), ?_, ha, h2⟩
          rw [hab, List.take_append, hl, List.take_of_length_le (by omega)]
      · rename_i hs
        cases hu : partIn i 0 n with
        | none => simp [hu] at ht
        | some x =>
          simp [hu] at ht
          subst ht
          have := partIn_ok ha (by omega) hu
          refine ⟨by rw [hab, List.length_append]; omega, LCells_single ?_⟩
          rw [hab, List.take_append_of_le_length (by omega)]
          simpa using this

theorem getRange_ok {ρ : Nat → Pl} : ∀ {l m : List IV} {off n : Nat} {vs : List Value}, LCells ρ l vs → getRange l off n = some m →
    off + n ≤ vs.length ∧ LCells ρ m ((vs.drop off).take n)
  | [], m, off, n, vs, h, hg => by
    simp only [getRange] at hg
    split at hg <;> simp at hg
    subst hg
    rename_i hc
    obtain ⟨rfl, rfl⟩ := hc
    exact ⟨Nat.zero_le _, by simp [LCells]⟩
  | i :: r, m, off, n, vs, hL, hg => by
    simp only [getRange] at hg
    split at hg
    · rename_i h0
      subst h0
      have := takeR_ok hL hg
      simpa using this
    · obtain ⟨a, b, hab, ha, hb⟩ := hL
      have hl := ICells_length ha
      split at hg
      · rename_i hs
        obtain ⟨h1, h2⟩ := getRange_ok hb hg
        refine ⟨by rw [hab, List.length_append]; omega, ?_⟩
        rw [hab, List.drop_append, hl, List.drop_eq_nil_of_le (by omega), List.nil_append]
        exact h2
      · split at hg
        · rename_i hs
          cases hu : partIn i off n with
          | none => simp [hu] at hg
          | some x =>
            simp [hu] at hg
            subst hg
            have := partIn_ok ha hs hu
            refine ⟨by rw [hab, List.length_append]; omega, LCells_single ?_⟩
            rw [hab, List.drop_append_of_le_length (by omega), List.take_append_of_le_length (by simp; omega)]
            exact this
        · simp at hg

def dropIn : IV → Nat → Option IV
  | .vi m l, n => some (.vi (m - n) (l.drop n))
  | .v8 m l, n => some (.v8 (m - n) (l.drop n))
  | .v32 m l, n => some (.v32 (m - n) (l.drop n))
  | .v64 m l, n => some (.v64 (m - n) (l.drop n))
  | _, _ => none

def dropR : List IV → Nat → Option (List IV)
  | [], n => if n = 0 then some [] else none
  | i :: r, n => if n = 0 then some (i :: r) else if i.size ≤ n then dropR r (n - i.size) else (dropIn i n).map (· :: r)

def spliceIn : IV → Nat → List IV → Option IV
  | .v8 m l, off, [.v8 k l'] => if off + k ≤ m then some (.v8 m (l.take off ++ l' ++ l.drop (off + k))) else none
  | _, _, _ => none

def setRange : List IV → Nat → List IV → Option (List IV)
  | [], off, new => if off = 0 ∧ lsize new = 0 then some new else none
  | i :: r, off, new =>
    if off = 0 then (dropR (i :: r) (lsize new)).map (new ++ ·)
    else if i.size ≤ off then (setRange r (off - i.size) new).map (i :: ·)
    else (spliceIn i off new).map (· :: r)

theorem dropIn_ok {ρ : Nat → Pl} {i x : IV} {n : Nat} {vs : List Value} (h : ICells ρ i vs) (hn : n ≤ i.size) (hp : dropIn i n = some x) : ICells ρ x (vs.drop n) := by
  cases i <;> simp only [dropIn, Option.some.injEq] at hp <;> first | (simp at hp; done) | skip
  all_goals
    subst hp
    simp only [ICells, PCells] at h
    split at h <;> simp at h
    subst h
    rename_i hm
    simp only [ICells, PCells]
    rw [if_pos (by simp; omega), List.map_drop]

theorem dropR_ok {ρ : Nat → Pl} : ∀ {l m : List IV} {n : Nat} {vs : List Value}, LCells ρ l vs → dropR l n = some m → n ≤ vs.length ∧ LCells ρ m (vs.drop n)
  | [], m, n, vs, h, ht => by
    simp only [dropR] at ht
    split at ht <;> simp at ht
    subst ht
    rename_i hn
    subst hn
    exact ⟨Nat.zero_le _, by simpa using h⟩
  | i :: r, m, n, vs, hL, ht => by
    simp only [dropR] at ht
    split at ht
    · simp at ht
      subst ht
      rename_i hn
      subst hn
      exact ⟨Nat.zero_le _, by simpa using hL⟩
    · obtain ⟨a, b, hab, ha, hb⟩ := hL
      have hl := ICells_length ha
      split at ht
      · rename_i hs
        obtain ⟨h1, h2⟩ := dropR_ok hb ht
        refine ⟨by rw [hab, List.length_append]; omega, ?_⟩
        rw [hab, List.drop_append, hl, List.drop_eq_nil_of_le (by omega), List.nil_append]
        exact h2
      · rename_i hs
        cases hu : dropIn i n with
        | none => simp [hu] at ht
        | some x =>
          simp [hu] at ht
          subst ht
          refine ⟨by rw [hab, List.length_append]; omega, a.drop n, b, ?_, dropIn_ok ha (by omega) hu, hb⟩
          rw [hab, List.drop_append_of_le_length (by omega)]

theorem spliceIn_ok {ρ : Nat → Pl} {i x : IV} {new : List IV} {off : Nat} {vs nv : List Value} (h : ICells ρ i vs) (hn : LCells ρ new nv) (hs : spliceIn i off new = some x) :
    off + nv.length ≤ vs.length ∧ ICells ρ x (vs.take off ++ nv ++ vs.drop (off + nv.length)) := by
  unfold spliceIn at hs
  split at hs
  case h_2 => simp at hs
  case h_1 m l off k l' =>
    split at hs <;> simp at hs
    rename_i hfit
    subst hs
    have hn' := LCells_of_single hn
    simp only [ICells, PCells] at h hn'
    split at h <;> simp at h
    split at hn' <;> simp at hn'
    rename_i hm hk
    subst h
    subst hn'
    refine ⟨by simp; omega, ?_⟩
    simp only [ICells, PCells]
    rw [if_pos (by simp; omega)]
    simp [hk, List.append_assoc]

theorem setRange_ok {ρ : Nat → Pl} : ∀ {l m new : List IV} {off : Nat} {vs nv : List Value}, LCells ρ l vs → LCells ρ new nv → setRange l off new = some m →
    off + nv.length ≤ vs.length ∧ LCells ρ m (vs.take off ++ nv ++ vs.drop (off + nv.length))
  | [], m, new, off, vs, nv, h, hn, hs => by
    have hnl := LCells_length hn
    simp only [setRange] at hs
    split at hs <;> simp at hs
    subst hs
    rename_i hc
    obtain ⟨rfl, h0⟩ := hc
    have hv : vs = [] := h
    subst hv
    have : nv = [] := List.eq_nil_of_length_eq_zero (by omega)
    subst this
    exact ⟨by simp, by simpa using hn⟩
  | i :: r, m, new, off, vs, nv, hL, hn, hs => by
    have hnl := LCells_length hn
    simp only [setRange] at hs
    split at hs
    · rename_i h0
      subst h0
      cases hu : dropR (i :: r) (lsize new) with
      | none => simp [hu] at hs
      | some d =>
        simp [hu] at hs
        subst hs
        obtain ⟨h1, h2⟩ := dropR_ok hL hu
        refine ⟨by omega, ?_⟩
        simp only [List.take_zero, List.nil_append, Nat.zero_add]
        rw [hnl]
        exact LCells_append hn h2
    · obtain ⟨a, b, hab, ha, hb⟩ := hL
      have hl := ICells_length ha
      split at hs
      · rename_i hsz
        cases hu : setRange r (off - i.size) new with
        | none => simp [hu] at hs
        | some r' =>
          simp [hu] at hs
          subst hs
          obtain ⟨h1, h2⟩ := setRange_ok hb hn hu
          refine ⟨by rw [hab, List.length_append]; omega, a, _, ?_, ha, h2⟩
          rw [hab, List.take_append, List.drop_append, hl, List.take_of_length_le (by omega), List.drop_eq_nil_of_le (by omega)]
          have : off + nv.length - i.size = off - i.size + nv.length := by omega
          rw [this]
          simp [List.append_assoc]
      · rename_i hsz
        cases hu : spliceIn i off new with
        | none => simp [hu] at hs
        | some x =>
          simp [hu] at hs
          subst hs
          have hsp := spliceIn_ok ha hn hu
          refine ⟨by rw [hab, List.length_append]; omega, _, b, ?_, hsp.2, hb⟩
          rw [hab, List.take_append_of_le_length (by omega), List.drop_append_of_le_length (by omega)]
          simp only [List.append_assoc]
end Go.Ev
