/- Texts put together: EvB EvGl. Own work. -/
import Derived.Test.YtlgiaglbdifkpaaGreatDoorMgca
import Derived.Laws.StructEq
import Derived.Laws.BytesString
/- Operations on numbers, as the evaluator computes them, are the model's. Own work; no statement of the seat is proved here. -/
namespace Go.Ev
open Go.RowKit

/-! ### Whole words -/
def ubin {n : Nat} (op : BinOp) (x y : BitVec n) (mk : BitVec n → IV) : Option IV :=
  match op with
  | .add => some (mk (x + y))
  | .sub => some (mk (x - y))
  | .mul => some (mk (x * y))
  | .quo => if y.toNat = 0 then none else some (mk (x / y))
  | .rem => if y.toNat = 0 then none else some (mk (x % y))
  | .and => some (mk (x &&& y))
  | .or => some (mk (x ||| y))
  | .xor => some (mk (x ^^^ y))
  | .andNot => some (mk (x &&& ~~~y))
  | .eql => some (.bool (x == y))
  | .neq => some (.bool (!(x == y)))
  | .lss => some (.bool (decide (x.toNat < y.toNat)))
  | .leq => some (.bool (decide (x.toNat ≤ y.toNat)))
  | .gtr => some (.bool (decide (y.toNat < x.toNat)))
  | .geq => some (.bool (decide (y.toNat ≤ x.toNat)))
  | _ => none

def ushift {n : Nat} (op : BinOp) (x : BitVec n) (m : Nat) (mk : BitVec n → IV) : Option IV :=
  match op with
  | .shl => some (mk (x <<< m))
  | .shr => some (mk (x >>> m))
  | _ => none

def ibin (op : BinOp) (x y : Int) : Option IV :=
  match op with
  | .add => some (.i64 (IntKind.i64.wrap (x + y)))
  | .sub => some (.i64 (IntKind.i64.wrap (x - y)))
  | .mul => some (.i64 (IntKind.i64.wrap (x * y)))
  | .quo => if y = 0 then none else some (.i64 (IntKind.i64.wrap (x.tdiv y)))
  | .rem => if y = 0 then none else some (.i64 (x.tmod y))
  | .and => some (.i64 (bits .and .i64 x y))
  | .or => some (.i64 (bits .or .i64 x y))
  | .xor => some (.i64 (bits .xor .i64 x y))
  | .andNot => some (.i64 (bits .andNot .i64 x y))
  | .eql => some (.bool (x == y))
  | .neq => some (.bool (!(x == y)))
  | .lss => some (.bool (decide (x < y)))
  | .leq => some (.bool (decide (x ≤ y)))
  | .gtr => some (.bool (decide (y < x)))
  | .geq => some (.bool (decide (y ≤ x)))
  | _ => none

def ishift (op : BinOp) (x : Int) (m : Nat) : Option IV :=
  match op with
  | .shl => some (.i64 (IntKind.i64.wrap (x * 2 ^ (min m 64))))
  | .shr => some (.i64 (x.fdiv (2 ^ (min m 64))))
  | _ => none

/-- How far a shift goes. -/
def amount : IV → Option Nat
  | .i64 n => if 0 ≤ n then some n.toNat else none
  | .u8 x => some x.toNat
  | .u32 x => some x.toNat
  | .u64 x => some x.toNat
  | _ => none

def isShift : BinOp → Bool
  | .shl | .shr => true
  | _ => false

def abin (P : Program) (op : BinOp) (t : TypeId) (x y : IV) : Option IV :=
  if isShift op then
    match amount y with
    | none => none
    | some m =>
      match x with
      | .i64 a => ishift op a m
      | .u8 a => ushift op a m .u8
      | .u32 a => ushift op a m .u32
      | .u64 a => ushift op a m .u64
      | _ => none
  else
    match x, y with
    | .i64 a, .i64 b => ibin op a b
    | .u8 a, .u8 b => ubin op a b .u8
    | .u32 a, .u32 b => ubin op a b .u32
    | .u64 a, .u64 b => ubin op a b .u64
    | .bool a, .bool b =>
      match P.underlying t, op with
      | some .bool, .eql => some (.bool (a == b))
      | some .bool, .neq => some (.bool (!(a == b)))
      | _, _ => none
    | .str a, .str b =>
      match op with
      | .eql => some (.bool (a == b))
      | .neq => some (.bool (!(a == b)))
      | _ => none
    | _, _ => none

section
variable {k : IntKind}
theorem uwrap (hk : k.signed = false) (n : Int) : k.wrap n = n % (2 ^ k.bits : Int) := by simp [IntKind.wrap, hk]
theorem uwrap_nat (hk : k.signed = false) (n : Nat) : k.wrap (n : Int) = ((n % 2 ^ k.bits : Nat) : Int) := by rw [uwrap hk]; simp
theorem uwrap_lt (hk : k.signed = false) {n : Nat} (h : n < 2 ^ k.bits) : k.wrap (n : Int) = (n : Int) := by rw [uwrap_nat hk, Nat.mod_eq_of_lt h]

theorem ubin_sound (hk : k.signed = false) {P : Program} (w : World) (t : TypeId) (op : BinOp) (x y : BitVec k.bits) (mk : BitVec k.bits → IV) (z : IV) (hs : isShift op = false)
    (hmk : ∀ a, PCells (mk a) = some [.int k (a.toNat : Int)]) (h : ubin op x y mk = some z) :
    ∃ v, (binOp op t (.int k (x.toNat : Int)) (.int k (y.toNat : Int))).run P w = .ok v w ∧ PCells z = some [v] := by
  have hx := x.isLt
  have hy := y.isLt
  have hbx : BitVec.ofInt k.bits (x.toNat : Int) = x := by simp
  have hby : BitVec.ofInt k.bits (y.toNat : Int) = y := by simp
  cases op <;> simp only [ubin, Option.some.injEq] at h <;> simp only [isShift] at hs
  case add =>
    subst h
    refine ⟨_, by rw [binOp_add]; rfl, ?_⟩
    rw [hmk, BitVec.toNat_add, ← Int.natCast_add, uwrap_nat hk]
  case sub =>
    subst h
    refine ⟨_, by rw [binOp_sub]; rfl, ?_⟩
    rw [hmk, BitVec.toNat_sub, uwrap hk]
    congr 3
    have : ((2 ^ k.bits - y.toNat + x.toNat : Nat) : Int) = ((x.toNat : Int) - y.toNat) + ((2 ^ k.bits : Nat) : Int) := by omega
    rw [Int.natCast_emod, this]
    simp
  case mul =>
    subst h
    refine ⟨_, by rw [binOp_mul]; rfl, ?_⟩
    rw [hmk, BitVec.toNat_mul, ← Int.natCast_mul, uwrap_nat hk]
  case quo =>
    split at h <;> simp at h
    rename_i hy0
    subst h
    have hy1 : ¬ ((y.toNat : Int) = 0) := by omega
    refine ⟨.int k (k.wrap ((x.toNat : Int).tdiv (y.toNat : Int))), by rw [binOp_quo]; simp only [Op.intDiv, hy1, if_false, Sem.run_pure], ?_⟩
    rw [hmk, BitVec.toNat_udiv, ← Int.ofNat_tdiv, uwrap_lt hk (Nat.lt_of_le_of_lt (Nat.div_le_self _ _) hx)]
  case rem =>
    split at h <;> simp at h
    rename_i hy0
    subst h
    have hy1 : ¬ ((y.toNat : Int) = 0) := by omega
    refine ⟨.int k ((x.toNat : Int).tmod (y.toNat : Int)), by rw [binOp_rem]; simp only [Op.intDiv, hy1, if_false, Sem.run_pure], ?_⟩
    rw [hmk, BitVec.toNat_umod, ← Int.ofNat_tmod]
  case and =>
    subst h
    refine ⟨_, by rw [binOp_and]; rfl, ?_⟩
    rw [hmk, hbx, hby, uwrap_lt hk (BitVec.isLt _)]
  case or =>
    subst h
    refine ⟨_, by rw [binOp_or]; rfl, ?_⟩
    rw [hmk, hbx, hby, uwrap_lt hk (BitVec.isLt _)]
  case xor =>
    subst h
    refine ⟨_, by rw [binOp_xor]; rfl, ?_⟩
    rw [hmk, hbx, hby, uwrap_lt hk (BitVec.isLt _)]
  case andNot =>
    subst h
    refine ⟨_, by rw [binOp_andNot]; rfl, ?_⟩
    rw [hmk, hbx, hby, uwrap_lt hk (BitVec.isLt _)]
  case eql =>
    subst h
    refine ⟨_, by rw [binOp_eql]; rfl, ?_⟩
    simp only [PCells, Option.some.injEq, List.cons.injEq, and_true, Value.bool.injEq]
    rw [Bool.eq_iff_iff]
    simp only [beq_iff_eq]
    exact ⟨fun e => by rw [e], fun e => BitVec.eq_of_toNat_eq (by omega)⟩
  case neq =>
    subst h
    refine ⟨_, by rw [binOp_neq]; rfl, ?_⟩
    simp only [PCells, Option.some.injEq, List.cons.injEq, and_true, Value.bool.injEq, bne]
    congr 1
    rw [Bool.eq_iff_iff]
    simp only [beq_iff_eq]
    exact ⟨fun e => by rw [e], fun e => BitVec.eq_of_toNat_eq (by omega)⟩
  case lss => subst h; exact ⟨_, by rw [binOp_lss]; rfl, by simp [PCells]⟩
  case leq => subst h; exact ⟨_, by rw [binOp_leq]; rfl, by simp [PCells]⟩
  case gtr => subst h; exact ⟨_, by rw [binOp_gtr]; rfl, by simp [PCells]⟩
  case geq => subst h; exact ⟨_, by rw [binOp_geq]; rfl, by simp [PCells]⟩
  all_goals (simp at hs h)

theorem ushift_sound (hk : k.signed = false) {P : Program} (w : World) (t : TypeId) (op : BinOp) (x : BitVec k.bits) (yk : IntKind) (y : Int) (m : Nat) (hy : y = (m : Int)) (mk : BitVec k.bits → IV) (z : IV)
    (hmk : ∀ a, PCells (mk a) = some [.int k (a.toNat : Int)]) (h : ushift op x m mk = some z) :
    ∃ v, (binOp op t (.int k (x.toNat : Int)) (.int yk y)).run P w = .ok v w ∧ PCells z = some [v] := by
  subst hy
  have hx := x.isLt
  have hm : ¬ ((m : Int) < 0) := by omega
  cases op <;> simp only [ushift, Option.some.injEq] at h <;> first | (simp at h; done) | skip
  case shl =>
    subst h
    refine ⟨.int k (k.wrap ((x.toNat : Int) * 2 ^ (min m k.bits))), by rw [binOp_shl]; simp only [Op.shift, hm, if_false, Int.toNat_natCast, Sem.run_pure], ?_⟩
    have hc : (x.toNat : Int) * 2 ^ (min m k.bits) = ((x.toNat * 2 ^ (min m k.bits) : Nat) : Int) := by simp
    rw [hmk, hc, uwrap_nat hk, BitVec.toNat_shiftLeft, Nat.shiftLeft_eq]
    congr 3
    rcases Nat.le_total m k.bits with hle | hle
    · rw [Nat.min_eq_left hle]
    · rw [Nat.min_eq_right hle]
      obtain ⟨d, rfl⟩ := Nat.exists_eq_add_of_le hle
      rw [Nat.pow_add, ← Nat.mul_assoc, Nat.mul_right_comm, Nat.mul_mod_left, Nat.mul_mod_left]
  case shr =>
    subst h
    refine ⟨.int k ((x.toNat : Int).fdiv (2 ^ (min m k.bits))), by rw [binOp_shr]; simp only [Op.shift, hm, if_false, Int.toNat_natCast, Sem.run_pure], ?_⟩
    rw [hmk, BitVec.toNat_ushiftRight, Nat.shiftRight_eq_div_pow]
    congr 3
    rw [Int.fdiv_eq_ediv_of_nonneg _ (Int.pow_nonneg (by decide))]
    rcases Nat.le_total m k.bits with hle | hle
    · rw [Nat.min_eq_left hle]; simp
    · rw [Nat.min_eq_right hle]
      have h1 : x.toNat / 2 ^ k.bits = 0 := Nat.div_eq_of_lt hx
      have h2 : x.toNat / 2 ^ m = 0 := Nat.div_eq_of_lt (Nat.lt_of_lt_of_le hx (Nat.pow_le_pow_right (by decide) hle))
      rw [h2]
      have : (x.toNat : Int) / (2 ^ k.bits) = ((x.toNat / 2 ^ k.bits : Nat) : Int) := by simp
      rw [this, h1]
end

theorem ibin_sound {P : Program} (w : World) (t : TypeId) (op : BinOp) (x y : Int) (z : IV) (hs : isShift op = false) (h : ibin op x y = some z) :
    ∃ v, (binOp op t (.int .i64 x) (.int .i64 y)).run P w = .ok v w ∧ PCells z = some [v] := by
  cases op <;> simp only [ibin, Option.some.injEq] at h <;> simp only [isShift] at hs
  case add => subst h; exact ⟨_, by rw [binOp_add]; rfl, rfl⟩
  case sub => subst h; exact ⟨_, by rw [binOp_sub]; rfl, rfl⟩
  case mul => subst h; exact ⟨_, by rw [binOp_mul]; rfl, rfl⟩
  case quo =>
    split at h <;> simp at h
    rename_i hy0
    subst h
    exact ⟨intVal (IntKind.i64.wrap (x.tdiv y)), by rw [binOp_quo]; simp only [Op.intDiv, hy0, if_false, Sem.run_pure, intVal], rfl⟩
  case rem =>
    split at h <;> simp at h
    rename_i hy0
    subst h
    exact ⟨intVal (x.tmod y), by rw [binOp_rem]; simp only [Op.intDiv, hy0, if_false, Sem.run_pure, intVal], rfl⟩
  case and => subst h; exact ⟨_, by rw [binOp_and]; rfl, rfl⟩
  case or => subst h; exact ⟨_, by rw [binOp_or]; rfl, rfl⟩
  case xor => subst h; exact ⟨_, by rw [binOp_xor]; rfl, rfl⟩
  case andNot => subst h; exact ⟨_, by rw [binOp_andNot]; rfl, rfl⟩
  case eql => subst h; exact ⟨_, by rw [binOp_eql]; rfl, rfl⟩
  case neq => subst h; exact ⟨_, by rw [binOp_neq]; rfl, rfl⟩
  case lss => subst h; exact ⟨_, by rw [binOp_lss]; rfl, by simp [PCells]⟩
  case leq => subst h; exact ⟨_, by rw [binOp_leq]; rfl, by simp [PCells]⟩
  case gtr => subst h; exact ⟨_, by rw [binOp_gtr]; rfl, by simp [PCells]⟩
  case geq => subst h; exact ⟨_, by rw [binOp_geq]; rfl, by simp [PCells]⟩
  all_goals (simp at hs h)

theorem ishift_sound {P : Program} (w : World) (t : TypeId) (op : BinOp) (x : Int) (yk : IntKind) (y : Int) (m : Nat) (hy : y = (m : Int)) (z : IV) (h : ishift op x m = some z) :
    ∃ v, (binOp op t (.int .i64 x) (.int yk y)).run P w = .ok v w ∧ PCells z = some [v] := by
  subst hy
  have hm : ¬ ((m : Int) < 0) := by omega
  cases op <;> simp only [ishift, Option.some.injEq] at h <;> first | (simp at h; done) | skip
  case shl => subst h; exact ⟨_, by rw [binOp_shl]; simp only [Op.shift, hm, if_false, Int.toNat_natCast, Sem.run_pure]; rfl, rfl⟩
  case shr => subst h; exact ⟨_, by rw [binOp_shr]; simp only [Op.shift, hm, if_false, Int.toNat_natCast, Sem.run_pure]; rfl, rfl⟩

theorem amount_ok {y : IV} {m : Nat} (h : amount y = some m) : ∃ yk n, PCells y = some [.int yk n] ∧ n = (m : Int) := by
  cases y <;> simp only [amount, Option.some.injEq] at h <;> first | (simp at h; done) | skip
  case i64 n =>
    split at h <;> simp at h
    subst h
    exact ⟨.i64, n, rfl, by omega⟩
  case u8 x => subst h; exact ⟨.u8, _, rfl, rfl⟩
  case u32 x => subst h; exact ⟨.u32, _, rfl, rfl⟩
  case u64 x => subst h; exact ⟨.u64, _, rfl, rfl⟩

theorem strOf_toList (s : List (BitVec 8)) : (strOf s).toList = s.map UInt8.ofBitVec := by
  rw [ByteArray.toList_eq]; simp [strOf]

theorem map_ofBitVec_inj : ∀ {a b : List (BitVec 8)}, a.map UInt8.ofBitVec = b.map UInt8.ofBitVec → a = b
  | [], [], _ => rfl
  | [], _ :: _, h => by simp at h
  | _ :: _, [], h => by simp at h
  | x :: a, y :: b, h => by
    simp only [List.map_cons, List.cons.injEq] at h
    have h1 : x = y := by have := congrArg UInt8.toBitVec h.1; simpa using this
    rw [h1, map_ofBitVec_inj h.2]

theorem str_beq (a b : List (BitVec 8)) : ((strOf a).toList == (strOf b).toList) = (a == b) := by
  rw [strOf_toList, strOf_toList, Bool.eq_iff_iff]
  simp only [beq_iff_eq]
  exact ⟨map_ofBitVec_inj, fun h => by rw [h]⟩

/-- No comparison of two numbers, bools or strings asks anything beforehand. -/
def plainVal : Value → Bool
  | .int .. | .bool _ | .string _ => true
  | _ => false
theorem eqGuard_plain {v u : Value} (h : plainVal v = true) (op : BinOp) (t : TypeId) (x y : Operand) : eqGuard op t x y v u = pure () := by
  cases v <;> simp [plainVal] at h
  · exact eqGuard_at_bool op t x y u _
  · exact eqGuard_at_int op t x y u _ _
  · exact eqGuard_at_string op t x y u _

/-- One operation on two of these. -/
theorem abin_sound {P : Program} (w : World) (op : BinOp) (t : TypeId) (ex ey : Operand) (x y z : IV) (u v : Value) (h : abin P op t x y = some z)
    (hx : PCells x = some [u]) (hy : PCells y = some [v]) :
    ∃ r, (do eqGuard op t ex ey u v; binOp op t u v : Sem Value).run P w = .ok r w ∧ PCells z = some [r] := by
  have core : (∃ r, (binOp op t u v).run P w = .ok r w ∧ PCells z = some [r]) → plainVal u = true →
      ∃ r, (do eqGuard op t ex ey u v; binOp op t u v : Sem Value).run P w = .ok r w ∧ PCells z = some [r] := by
    rintro ⟨r, h1, h2⟩ hu
    exact ⟨r, by rw [eqGuard_plain hu]; simpa using h1, h2⟩
  unfold abin at h
  split at h
  · rename_i hs
    split at h
    · simp at h
    · rename_i m hm
      obtain ⟨yk, n, hy', hn⟩ := amount_ok hm
      rw [hy] at hy'
      simp only [Option.some.injEq, List.cons.injEq, and_true] at hy'
      subst hy'
      cases x <;> first | (simp at h; done) | skip
      all_goals (simp only [PCells, Option.some.injEq, List.cons.injEq, and_true] at hx; subst hx)
      · exact core (ishift_sound w t op _ yk n m hn z h) rfl
      · exact core (ushift_sound (k := .u8) rfl w t op _ yk n m hn .u8 z (fun _ => rfl) h) rfl
      · exact core (ushift_sound (k := .u32) rfl w t op _ yk n m hn .u32 z (fun _ => rfl) h) rfl
      · exact core (ushift_sound (k := .u64) rfl w t op _ yk n m hn .u64 z (fun _ => rfl) h) rfl
  · rename_i hs
    have hs' : isShift op = false := by simpa using hs
    split at h
    · simp only [PCells, Option.some.injEq, List.cons.injEq, and_true] at hx hy
      subst hx hy
      exact core (ibin_sound w t op _ _ z hs' h) rfl
    · simp only [PCells, Option.some.injEq, List.cons.injEq, and_true] at hx hy
      subst hx hy
      exact core (ubin_sound (k := .u8) rfl w t op _ _ .u8 z hs' (fun _ => rfl) h) rfl
    · simp only [PCells, Option.some.injEq, List.cons.injEq, and_true] at hx hy
      subst hx hy
      exact core (ubin_sound (k := .u32) rfl w t op _ _ .u32 z hs' (fun _ => rfl) h) rfl
    · simp only [PCells, Option.some.injEq, List.cons.injEq, and_true] at hx hy
      subst hx hy
      exact core (ubin_sound (k := .u64) rfl w t op _ _ .u64 z hs' (fun _ => rfl) h) rfl
    · rename_i a b
      simp only [PCells, Option.some.injEq, List.cons.injEq, and_true] at hx hy
      subst hx hy
      split at h <;> first | (simp at h; done) | (simp only [Option.some.injEq] at h)
      · rename_i hb
        subst h
        refine core ⟨.bool (a == b), ?_, rfl⟩ rfl
        simp [binOp, run_equal_bool w t a b hb]
      · rename_i hb
        subst h
        refine core ⟨.bool (!(a == b)), ?_, rfl⟩ rfl
        simp [binOp, run_equal_bool w t a b hb]
    · rename_i a b
      simp only [PCells, Option.some.injEq, List.cons.injEq, and_true] at hx hy
      subst hx hy
      split at h <;> first | (simp at h; done) | (simp only [Option.some.injEq] at h)
      · subst h
        refine core ⟨.bool (a == b), ?_, rfl⟩ rfl
        simp only [binOp, Op.stringOp, Sem.run_pure, str_beq]
      · subst h
        refine core ⟨.bool (!(a == b)), ?_, rfl⟩ rfl
        simp only [binOp, Op.stringOp, Sem.run_pure, str_beq]
    · simp at h

/-! ### One number -/
def aun (op : UnOp) (x : IV) : Option IV :=
  match op, x with
  | .not, .bool b => some (.bool (!b))
  | .neg, .i64 n => some (.i64 (IntKind.i64.wrap (0 - n)))
  | .neg, .u8 x => some (.u8 (-x))
  | .neg, .u32 x => some (.u32 (-x))
  | .neg, .u64 x => some (.u64 (-x))
  | .xor, .u8 x => some (.u8 (~~~x))
  | .xor, .u32 x => some (.u32 (~~~x))
  | .xor, .u64 x => some (.u64 (~~~x))
  | _, _ => none

theorem uneg_sound {k : IntKind} (hk : k.signed = false) (x : BitVec k.bits) : k.wrap (0 - (x.toNat : Int)) = ((-x).toNat : Int) := by
  have hx := x.isLt
  rw [uwrap hk, BitVec.toNat_neg]
  have : ((2 ^ k.bits - x.toNat : Nat) : Int) = (0 - (x.toNat : Int)) + ((2 ^ k.bits : Nat) : Int) := by omega
  rw [Int.natCast_emod, this]
  simp

theorem unot_sound {k : IntKind} (hk : k.signed = false) (x : BitVec k.bits) : bits .xor k k.max (x.toNat : Int) = ((~~~x).toNat : Int) := by
  have h1 : BitVec.ofInt k.bits k.max = BitVec.allOnes k.bits := by
    apply BitVec.eq_of_toInt_eq
    rw [BitVec.toInt_ofInt]
    have hp : k.max = (2 ^ k.bits : Int) - 1 := by simp [IntKind.max, hk]
    have : (BitVec.allOnes k.bits).toInt = ((BitVec.allOnes k.bits).toNat : Int).bmod (2 ^ k.bits) := by rw [BitVec.toInt_eq_toNat_bmod]
    rw [this, hp, BitVec.toNat_allOnes]
    congr 1
    have : 1 ≤ 2 ^ k.bits := Nat.one_le_two_pow
    rw [Int.natCast_sub this]
    simp
  simp only [bits, h1]
  rw [show BitVec.ofInt k.bits (x.toNat : Int) = x by simp, BitVec.allOnes_xor, uwrap_lt hk (BitVec.isLt _)]

theorem aun_sound {P : Program} (w : World) (op : UnOp) (x z : IV) (u : Value) (h : aun op x = some z) (hx : PCells x = some [u]) :
    ∃ r, (Op.unary op u).run P w = .ok r w ∧ PCells z = some [r] := by
  unfold aun at h
  split at h <;> first | (simp at h; done) | skip
  all_goals
    simp only [Option.some.injEq] at h
    subst h
    simp only [PCells, Option.some.injEq, List.cons.injEq, and_true] at hx
    subst hx
  · exact ⟨_, rfl, rfl⟩
  · exact ⟨_, rfl, rfl⟩
  · exact ⟨.int .u8 (IntKind.u8.wrap (0 - _)), rfl, congrArg (fun n => some [Value.int .u8 n]) (uneg_sound (k := .u8) rfl _).symm⟩
  · exact ⟨.int .u32 (IntKind.u32.wrap (0 - _)), rfl, congrArg (fun n => some [Value.int .u32 n]) (uneg_sound (k := .u32) rfl _).symm⟩
  · exact ⟨.int .u64 (IntKind.u64.wrap (0 - _)), rfl, congrArg (fun n => some [Value.int .u64 n]) (uneg_sound (k := .u64) rfl _).symm⟩
  · exact ⟨.int .u8 (bits .xor .u8 IntKind.u8.max _), rfl, congrArg (fun n => some [Value.int .u8 n]) (unot_sound (k := .u8) rfl _).symm⟩
  · exact ⟨.int .u32 (bits .xor .u32 IntKind.u32.max _), rfl, congrArg (fun n => some [Value.int .u32 n]) (unot_sound (k := .u32) rfl _).symm⟩
  · exact ⟨.int .u64 (bits .xor .u64 IntKind.u64.max _), rfl, congrArg (fun n => some [Value.int .u64 n]) (unot_sound (k := .u64) rfl _).symm⟩

/-! ### From one kind to another -/
def aconv (dst : IntKind) (x : IV) : Option IV :=
  match dst, x with
  | .i64, .i64 n => some (.i64 (IntKind.i64.wrap n))
  | .i64, .u8 x => some (.i64 (x.toNat : Int))
  | .i64, .u16 x => some (.i64 (x.toNat : Int))
  | .i64, .u32 x => some (.i64 (x.toNat : Int))
  | .i64, .u64 x => some (.i64 (IntKind.i64.wrap (x.toNat : Int)))
  | .u8, .i64 n => some (.u8 (BitVec.ofInt 8 n))
  | .u8, .u8 x => some (.u8 x)
  | .u8, .u32 x => some (.u8 (x.setWidth 8))
  | .u8, .u64 x => some (.u8 (x.setWidth 8))
  | .u32, .i64 n => some (.u32 (BitVec.ofInt 32 n))
  | .u32, .u8 x => some (.u32 (x.setWidth 32))
  | .u32, .u32 x => some (.u32 x)
  | .u32, .u64 x => some (.u32 (x.setWidth 32))
  | .u64, .i64 n => some (.u64 (BitVec.ofInt 64 n))
  | .u64, .u8 x => some (.u64 (x.setWidth 64))
  | .u64, .u32 x => some (.u64 (x.setWidth 64))
  | .u64, .u64 x => some (.u64 x)
  | _, _ => none

theorem i64_wrap_small {n : Nat} (h : n < 9223372036854775808) : IntKind.i64.wrap (n : Int) = n := by
  rw [IntKind.wrap_i64]; omega

theorem uwrap_ofInt {k : IntKind} (hk : k.signed = false) (n : Int) : k.wrap n = ((BitVec.ofInt k.bits n).toNat : Int) := by
  rw [uwrap hk, BitVec.toNat_ofInt]
  rw [Int.toNat_of_nonneg (Int.emod_nonneg _ (by have := Nat.two_pow_pos k.bits; omega))]
  simp

theorem aconv_sound {P : Program} (w : World) (dst : IntKind) (x z : IV) (u : Value) (h : aconv dst x = some z) (hx : PCells x = some [u]) :
    ∃ k n r, u = .int k n ∧ (Conv.intToInt dst n).run P w = .ok r w ∧ PCells z = some [r] := by
  unfold aconv at h
  split at h <;> first | (simp at h; done) | skip
  all_goals
    simp only [Option.some.injEq] at h
    subst h
    simp only [PCells, Option.some.injEq, List.cons.injEq, and_true] at hx
    subst hx
    refine ⟨_, _, _, rfl, rfl, ?_⟩
  case h_1 => rfl
  case h_2 x => have := x.isLt; rw [i64_wrap_small (by omega)]; rfl
  case h_3 x => have := x.isLt; rw [i64_wrap_small (by omega)]; rfl
  case h_4 x => have := x.isLt; rw [i64_wrap_small (by omega)]; rfl
  case h_5 => rfl
  case h_6 => rw [uwrap_ofInt (k := .u8) rfl]; rfl
  case h_7 x => rw [uwrap_lt (k := .u8) rfl x.isLt]; rfl
  case h_8 x => rw [uwrap_nat (k := .u8) rfl]; simp only [PCells, byteVal, BitVec.toNat_setWidth]; rfl
  case h_9 x => rw [uwrap_nat (k := .u8) rfl]; simp only [PCells, byteVal, BitVec.toNat_setWidth]; rfl
  case h_10 => rw [uwrap_ofInt (k := .u32) rfl]; rfl
  case h_11 x => rw [uwrap_nat (k := .u32) rfl]; simp only [PCells, w32Val, BitVec.toNat_setWidth]; rfl
  case h_12 x => rw [uwrap_lt (k := .u32) rfl x.isLt]; rfl
  case h_13 x => rw [uwrap_nat (k := .u32) rfl]; simp only [PCells, w32Val, BitVec.toNat_setWidth]; rfl
  case h_14 => rw [uwrap_ofInt (k := .u64) rfl]; rfl
  case h_15 x => rw [uwrap_nat (k := .u64) rfl]; simp only [PCells, wordVal, BitVec.toNat_setWidth]; rfl
  case h_16 x => rw [uwrap_nat (k := .u64) rfl]; simp only [PCells, wordVal, BitVec.toNat_setWidth]; rfl
  case h_17 x => rw [uwrap_lt (k := .u64) rfl x.isLt]; rfl

/-! ### Constants -/
def ivOf : Value → Option IV
  | .bool b => some (.bool b)
  | .int .i64 n => some (.i64 n)
  | .int .u8 n => if 0 ≤ n ∧ n < 256 then some (.u8 (BitVec.ofInt 8 n)) else none
  | .int .u32 n => if 0 ≤ n ∧ n < 4294967296 then some (.u32 (BitVec.ofInt 32 n)) else none
  | .int .u64 n => if 0 ≤ n ∧ n < 18446744073709551616 then some (.u64 (BitVec.ofInt 64 n)) else none
  | .slice none 0 0 => some .nil
  | _ => none

theorem ivOf_ok {v : Value} {i : IV} (h : ivOf v = some i) : PCells i = some [v] ∧ single i = true := by
  unfold ivOf at h
  split at h
  case h_1 => simp at h; subst h; exact ⟨rfl, rfl⟩
  case h_2 => simp at h; subst h; exact ⟨rfl, rfl⟩
  case h_3 n =>
    split at h <;> simp at h
    rename_i hn
    subst h
    refine ⟨?_, rfl⟩
    have e := uwrap_ofInt (k := .u8) rfl n
    rw [uwrap (k := .u8) rfl, Int.emod_eq_of_lt hn.1 (by simpa [IntKind.bits] using hn.2)] at e
    exact congrArg (fun n => some [Value.int .u8 n]) e.symm
  case h_4 n =>
    split at h <;> simp at h
    rename_i hn
    subst h
    refine ⟨?_, rfl⟩
    have e := uwrap_ofInt (k := .u32) rfl n
    rw [uwrap (k := .u32) rfl, Int.emod_eq_of_lt hn.1 (by simpa [IntKind.bits] using hn.2)] at e
    exact congrArg (fun n => some [Value.int .u32 n]) e.symm
  case h_5 n =>
    split at h <;> simp at h
    rename_i hn
    subst h
    refine ⟨?_, rfl⟩
    have e := uwrap_ofInt (k := .u64) rfl n
    rw [uwrap (k := .u64) rfl, Int.emod_eq_of_lt hn.1 (by simpa [IntKind.bits] using hn.2)] at e
    exact congrArg (fun n => some [Value.int .u64 n]) e.symm
  case h_6 => simp at h; subst h; exact ⟨rfl, rfl⟩
  case h_7 => simp at h

/-- Cells one by one; then four words are made one number, and rows of one kind one list. -/
def ivsOf : List Value → Option (List IV)
  | [] => some []
  | v :: r => match ivOf v, ivsOf r with
    | some i, some l => some (i :: l)
    | _, _ => none

def i64s? : List IV → Option (List Int)
  | [] => some []
  | .i64 n :: r => (i64s? r).map (n :: ·)
  | _ => none
def u8s? : List IV → Option (List (BitVec 8))
  | [] => some []
  | .u8 n :: r => (u8s? r).map (n :: ·)
  | _ => none
def u32s? : List IV → Option (List (BitVec 32))
  | [] => some []
  | .u32 n :: r => (u32s? r).map (n :: ·)
  | _ => none
def quads? : List IV → Option (List IV)
  | [] => some []
  | .u64 a :: .u64 b :: .u64 c :: .u64 d :: r => (quads? r).map (.n4 ⟨a, b, c, d⟩ :: ·)
  | _ => none

/-- The same cells, packed. -/
def pack (l : List IV) : List IV :=
  match l with
  | [] => []
  | [x] => [x]
  | _ =>
    match quads? l with
    | some q => q
    | none => match i64s? l with
      | some m => [.vi m.length m]
      | none => match u8s? l with
        | some m => [.v8 m.length m]
        | none => match u32s? l with
          | some m => [.v32 m.length m]
          | none => l

theorem i64s?_ok {ρ : Nat → Pl} : ∀ {l : List IV} {m : List Int} {vs : List Value}, i64s? l = some m → LCells ρ l vs → vs = m.map intVal
  | [], m, vs, h, hL => by simp [i64s?] at h; subst h; exact hL
  | .i64 n :: r, m, vs, h, ⟨a, b, hab, ha, hb⟩ => by
    simp only [i64s?] at h
    cases hr : i64s? r with
    | none => simp [hr] at h
    | some m' =>
      simp [hr] at h
      subst h
      simp only [ICells, PCells, Option.some.injEq] at ha
      rw [hab, ← ha, i64s?_ok hr hb]
      rfl
theorem u8s?_ok {ρ : Nat → Pl} : ∀ {l : List IV} {m : List (BitVec 8)} {vs : List Value}, u8s? l = some m → LCells ρ l vs → vs = m.map byteVal
  | [], m, vs, h, hL => by simp [u8s?] at h; subst h; exact hL
  | .u8 n :: r, m, vs, h, ⟨a, b, hab, ha, hb⟩ => by
    simp only [u8s?] at h
    cases hr : u8s? r with
    | none => simp [hr] at h
    | some m' =>
      simp [hr] at h
      subst h
      simp only [ICells, PCells, Option.some.injEq] at ha
      rw [hab, ← ha, u8s?_ok hr hb]
      rfl
theorem u32s?_ok {ρ : Nat → Pl} : ∀ {l : List IV} {m : List (BitVec 32)} {vs : List Value}, u32s? l = some m → LCells ρ l vs → vs = m.map w32Val
  | [], m, vs, h, hL => by simp [u32s?] at h; subst h; exact hL
  | .u32 n :: r, m, vs, h, ⟨a, b, hab, ha, hb⟩ => by
    simp only [u32s?] at h
    cases hr : u32s? r with
    | none => simp [hr] at h
    | some m' =>
      simp [hr] at h
      subst h
      simp only [ICells, PCells, Option.some.injEq] at ha
      rw [hab, ← ha, u32s?_ok hr hb]
      rfl
theorem quads?_ok {ρ : Nat → Pl} : ∀ {l m : List IV} {vs : List Value}, quads? l = some m → LCells ρ l vs → LCells ρ m vs
  | [], m, vs, h, hL => by simp [quads?] at h; subst h; exact hL
  | .u64 a :: .u64 b :: .u64 c :: .u64 d :: r, m, vs, h, hL => by
    simp only [quads?] at h
    cases hr : quads? r with
    | none => simp [hr] at h
    | some m' =>
      simp [hr] at h
      subst h
      obtain ⟨_, _, rfl, ha, _, _, rfl, hb, _, _, rfl, hc, _, _, rfl, hd, hrest⟩ := hL
      simp only [ICells, PCells, Option.some.injEq] at ha hb hc hd
      subst ha hb hc hd
      exact ⟨[wordVal a, wordVal b, wordVal c, wordVal d], _, rfl, rfl, quads?_ok hr hrest⟩

theorem pack_ok {ρ : Nat → Pl} {l : List IV} {vs : List Value} (h : LCells ρ l vs) : LCells ρ (pack l) vs := by
  unfold pack
  split
  · exact h
  · exact h
  · split
    · rename_i q hq; exact quads?_ok hq h
    · split
      · rename_i m hm
        rw [i64s?_ok hm h]
        exact LCells_single (by simp [ICells, PCells])
      · split
        · rename_i m hm
          rw [u8s?_ok hm h]
          exact LCells_single (by simp [ICells, PCells])
        · split
          · rename_i m hm
            rw [u32s?_ok hm h]
            exact LCells_single (by simp [ICells, PCells])
          · exact h

theorem ICells_of_P {ρ : Nat → Pl} {i : IV} {vs : List Value} (h : PCells i = some vs) : ICells ρ i vs := by
  cases i <;> first | exact h | (simp [PCells] at h)

theorem ivsOf_ok {ρ : Nat → Pl} : ∀ {vs : List Value} {l : List IV}, ivsOf vs = some l → LCells ρ l vs
  | [], l, h => by simp [ivsOf] at h; subst h; rfl
  | v :: r, l, h => by
    simp only [ivsOf] at h
    split at h <;> simp at h
    rename_i i l' hi hl
    subst h
    exact ⟨[v], r, rfl, ICells_of_P (ivOf_ok hi).1, ivsOf_ok hl⟩

/-- A value of one's own text: items, or nothing. -/
def avOf : Value → Option AV
  | .agg cs => (ivsOf cs.toList).map fun l => .val true (pack l)
  | .tuple ⟨[]⟩ => some (.tup [])
  | v => (ivOf v).map fun i => sc i

theorem VRepr_sc {ρ : Nat → Pl} {i : IV} {v : Value} : VRepr ρ (sc i) v ↔ ICells ρ i [v] := by
  constructor
  · rintro ⟨vs, h1, h2⟩
    simp at h2
    subst h2
    exact LCells_of_single h1
  · intro h
    exact ⟨[v], LCells_single h, by simp⟩

theorem VRepr_undef (ρ : Nat → Pl) : VRepr ρ (.tup []) undef := ⟨[], rfl, trivial⟩

theorem avOf_ok {ρ : Nat → Pl} {v : Value} {x : AV} (h : avOf v = some x) : VRepr ρ x v := by
  unfold avOf at h
  split at h
  · rename_i cs
    cases hl : ivsOf cs.toList with
    | none => simp [hl] at h
    | some l =>
      simp [hl] at h
      subst h
      exact ⟨cs.toList, pack_ok (ivsOf_ok hl), by simp⟩
  · simp at h; subst h; exact VRepr_undef ρ
  · cases hi : ivOf v with
    | none => simp [hi] at h
    | some i =>
      simp [hi] at h
      subst h
      exact VRepr_sc.2 (ICells_of_P (ivOf_ok hi).1)
end Go.Ev
/- What the package-level variables hold, as a condition on the world. Own work; no statement of the seat is proved here. -/
namespace Go.Ev
open Go.RowKit

/-- The variables that are looked into, with their cells. -/
def k512L : List (BitVec 64) := [0x428a2f98d728ae22#64, 0x7137449123ef65cd#64, 0xb5c0fbcfec4d3b2f#64, 0xe9b5dba58189dbbc#64, 0x3956c25bf348b538#64, 0x59f111f1b605d019#64, 0x923f82a4af194f9b#64, 0xab1c5ed5da6d8118#64, 0xd807aa98a3030242#64, 0x12835b0145706fbe#64, 0x243185be4ee4b28c#64, 0x550c7dc3d5ffb4e2#64, 0x72be5d74f27b896f#64, 0x80deb1fe3b1696b1#64, 0x9bdc06a725c71235#64, 0xc19bf174cf692694#64, 0xe49b69c19ef14ad2#64, 0xefbe4786384f25e3#64, 0x0fc19dc68b8cd5b5#64, 0x240ca1cc77ac9c65#64, 0x2de92c6f592b0275#64, 0x4a7484aa6ea6e483#64, 0x5cb0a9dcbd41fbd4#64, 0x76f988da831153b5#64, 0x983e5152ee66dfab#64, 0xa831c66d2db43210#64, 0xb00327c898fb213f#64, 0xbf597fc7beef0ee4#64, 0xc6e00bf33da88fc2#64, 0xd5a79147930aa725#64, 0x06ca6351e003826f#64, 0x142929670a0e6e70#64, 0x27b70a8546d22ffc#64, 0x2e1b21385c26c926#64, 0x4d2c6dfc5ac42aed#64, 0x53380d139d95b3df#64, 0x650a73548baf63de#64, 0x766a0abb3c77b2a8#64, 0x81c2c92e47edaee6#64, 0x92722c851482353b#64, 0xa2bfe8a14cf10364#64, 0xa81a664bbc423001#64, 0xc24b8b70d0f89791#64, 0xc76c51a30654be30#64, 0xd192e819d6ef5218#64, 0xd69906245565a910#64, 0xf40e35855771202a#64, 0x106aa07032bbd1b8#64, 0x19a4c116b8d2d0c8#64, 0x1e376c085141ab53#64, 0x2748774cdf8eeb99#64, 0x34b0bcb5e19b48a8#64, 0x391c0cb3c5c95a63#64, 0x4ed8aa4ae3418acb#64, 0x5b9cca4f7763e373#64, 0x682e6ff3d6b2b8a3#64, 0x748f82ee5defb2fc#64, 0x78a5636f43172f60#64, 0x84c87814a1f0ab72#64, 0x8cc702081a6439ec#64, 0x90befffa23631e28#64, 0xa4506cebde82bde9#64, 0xbef9a3f7b2c67915#64, 0xc67178f2e372532b#64, 0xca273eceea26619c#64, 0xd186b8c721c0c207#64, 0xeada7dd6cde0eb1e#64, 0xf57d4f7fee6ed178#64, 0x06f067aa72176fba#64, 0x0a637dc5a2c898a6#64, 0x113f9804bef90dae#64, 0x1b710b35131c471b#64, 0x28db77f523047d84#64, 0x32caab7b40c72493#64, 0x3c9ebe0a15c9bebc#64, 0x431d67c49c100d4c#64, 0x4cc5d4becb3e42b6#64, 0x597f299cfc657e2a#64, 0x5fcb6fab3ad6faec#64, 0x6c44198c4a475817#64]
def greatL : List IV := [.i64 64, .i64 80, .vi 3 [28, 34, 39], .vi 3 [14, 18, 41], .vi 3 [1, 8, 7], .vi 3 [19, 61, 6]]
def globT : List (Nat × List IV) := [(0, greatL), (1, [.v64 80 k512L])]
def globAt : List (Nat × List IV) → Nat → Option (List IV)
  | [], _ => none
  | p :: r, g => if p.1 = g then some p.2 else globAt r g
/-- The world in which each of them holds what the table says. -/
def GlobOk (w : World) : Prop := ∀ g items, globAt globT g = some items → ∃ vs, (∀ ρ : Nat → Pl, LCells ρ items vs) ∧ ∀ i v, vs[i]? = some v → w.cell? ⟨g, i, none⟩ = some v

theorem cell_block {w : World} {a : Addr} {v : Value} (h : w.cell? a = some v) : a.block < w.heap.size := by
  by_cases hb : a.block < w.heap.size
  · exact hb
  · have : w.heap[a.block]? = none := by simp; omega
    simp [World.cell?, this] at h

theorem GlobOk.below {w w' : World} (h : GlobOk w) (hb : Below w.heap.size w w') : GlobOk w' := fun g items hg => by
  obtain ⟨vs, h1, h2⟩ := h g items hg
  exact ⟨vs, h1, fun i v hi => by rw [hb.cell (cell_block (h2 i v hi))]; exact h2 i v hi⟩

/-- As Below, from a world in which the variables hold what they should. -/
structure BelowG (base w : World) : Prop where
  b : Below base.heap.size base w
  glob : GlobOk base
theorem BelowG.size {base w : World} (h : BelowG base w) : base.heap.size ≤ w.heap.size := h.b.size
theorem BelowG.trans {base w w' : World} (h : BelowG base w) (h' : Below base.heap.size w w') : BelowG base w' := ⟨h.b.trans h', h.glob⟩
theorem BelowG.drew {base w : World} (h : BelowG base w) : BelowG base w.drew := ⟨h.b.drew, h.glob⟩
theorem BelowG.now {base w : World} (h : BelowG base w) : GlobOk w := h.glob.below h.b

/-- A call in a world in which the variables hold what they should. -/
def CallsG (P : Program) (f : FuncId) (args : Array Value) (w : World) (Q : Ending → World → Prop) : Prop := GlobOk w → Calls P f args w Q
theorem CallsG.mono {P : Program} {f : FuncId} {args : Array Value} {w : World} {Q R : Ending → World → Prop} (h : CallsG P f args w Q) (hq : ∀ e w', Q e w' → R e w') : CallsG P f args w R := fun hG => (h hG).mono hq
end Go.Ev
