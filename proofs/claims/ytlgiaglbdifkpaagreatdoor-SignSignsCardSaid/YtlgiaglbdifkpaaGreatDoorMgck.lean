/- Texts put together: EvO. Own work. -/
import Derived.Test.YtlgiaglbdifkpaaGreatDoorMgcj
/- Symbolic evaluation: what cannot be decided is laid down as a condition. Own work; no statement of the seat is proved here. -/
namespace Go.Ev
open Go.RowKit

def AllP : List Prop → Prop
  | [] => True
  | p :: r => p ∧ AllP r
theorem AllP_append : ∀ {a b : List Prop}, AllP (a ++ b) → AllP a ∧ AllP b
  | [], _, h => ⟨trivial, h⟩
  | _ :: _, _, ⟨h1, h2⟩ => let ⟨a, b⟩ := AllP_append h2; ⟨⟨h1, a⟩, b⟩

abbrev SR := Option (AV × Upd × List Prop)
def plainS (r : Option (AV × Upd)) : SR := r.map fun q => (q.1, q.2, [])

def natS (x : AV) : Option (Nat × List Prop) :=
  match x.one? with
  | some (.i64 z) => some (z.toNat, [0 ≤ z])
  | some i => (amount i).map (·, [])
  | none => none
theorem natS_ok {x : AV} {n : Nat} {cs : List Prop} (h : natS x = some (n, cs)) (hc : AllP cs) : x.nat? = some n := by
  unfold natS at h
  unfold AV.nat?
  split at h
  · rename_i z hz
    simp at h
    obtain ⟨rfl, rfl⟩ := h
    rw [hz]
    simp only [amount]
    rw [if_pos hc.1]
  · rename_i i _ hi
    rw [hi]
    simp only
    cases ha : amount i with
    | none => simp [ha] at h
    | some m => simp [ha] at h; rw [h.1]
  · simp at h

def natOrS (x : Option AV) (d : Nat) : Option (Nat × List Prop) :=
  match x with
  | none => some (d, [])
  | some v => natS v
theorem natOrS_ok {x : Option AV} {d n : Nat} {cs : List Prop} (h : natOrS x d = some (n, cs)) (hc : AllP cs) : natOr x d = some n := by
  cases x with
  | none => simp [natOrS] at h; obtain ⟨rfl, rfl⟩ := h; rfl
  | some v => exact natS_ok h hc

def indexAddrS (P : Program) (t : TypeId) (x i : AV) : SR :=
  match natS i with
  | none => none
  | some (j, cs) =>
    match x.ptr? with
    | some (k, off) =>
      match arrT P t with
      | some (n, e) => match szT P e with
        | some s => some (sc (.ptr k (off + j * s)), [], cs ++ [j < n])
        | none => none
      | none => none
    | none =>
      match x.sl? with
      | some (k, off, len) =>
        match slT P t with
        | some e => match szT P e with
          | some s => some (sc (.ptr k (off + j * s)), [], cs ++ [j < len])
          | none => none
        | none => none
      | none => none
theorem indexAddrS_ok {P : Program} {t : TypeId} {x i v : AV} {upd : Upd} {cs : List Prop} (h : indexAddrS P t x i = some (v, upd, cs)) (hc : AllP cs) : aindexAddr P t x i = some (v, upd) := by
  unfold indexAddrS at h
  unfold aindexAddr
  split at h
  · simp at h
  rename_i j cs' hj
  split at h
  · rename_i k off hp
    split at h
    case h_2 => simp at h
    rename_i n e ha
    split at h
    case h_2 => simp at h
    rename_i s hs
    simp at h
    obtain ⟨rfl, rfl, rfl⟩ := h
    obtain ⟨c1, c2⟩ := AllP_append hc
    simp only [natS_ok hj c1, hp, ha, hs]
    rw [if_pos c2.1]
  · rename_i hp
    split at h
    case h_2 => simp at h
    rename_i k off len hsl
    split at h
    case h_2 => simp at h
    rename_i e he
    split at h
    case h_2 => simp at h
    rename_i s hs
    simp at h
    obtain ⟨rfl, rfl, rfl⟩ := h
    obtain ⟨c1, c2⟩ := AllP_append hc
    simp only [natS_ok hj c1, hp, hsl, he, hs]
    rw [if_pos c2.1]

def getCellS : List IV → Nat → Option (IV × List Prop)
  | [i], off => (cellIn i off).map (·, [off < i.size])
  | [.n4 a, .n4 b], off => some (.u64 (([a, b].getD (off / 4) N4.zero).get (off % 4)), [off < 8])
  | l, off => (getCell l off).map (·, [])
theorem getCellS_ok {l : List IV} {off : Nat} {c : IV} {cs : List Prop} (h : getCellS l off = some (c, cs)) (hc : AllP cs) : getCell l off = some c := by
  unfold getCellS at h
  split at h
  · rename_i i
    cases ha : cellIn i off with
    | none => simp [ha] at h
    | some m =>
      simp [ha] at h
      obtain ⟨rfl, rfl⟩ := h
      simp only [getCell]
      rw [if_pos hc.1, ha]
  · rename_i a b
    simp at h
    obtain ⟨rfl, rfl⟩ := h
    have hlt : off < 8 := hc.1
    simp only [getCell]
    by_cases h4 : off < 4
    · rw [if_pos (show off < (IV.n4 a).size from h4), Nat.div_eq_of_lt h4, Nat.mod_eq_of_lt h4]
      rfl
    · have e1 : off / 4 = 1 := by omega
      have e2 : off % 4 = off - 4 := by omega
      rw [if_neg (show ¬ off < (IV.n4 a).size from h4), if_pos (show off - (IV.n4 a).size < (IV.n4 b).size from (by show off - 4 < 4; omega)), e1, e2]
      rfl
  · cases ha : getCell l off with
    | none => simp [ha] at h
    | some m => simp [ha] at h; rw [h.1]
/-- The lower, and the higher, half of a double number in which a word is set. -/
def N4.setLo (a : N4) (off : Nat) (x : BitVec 64) : N4 := if off < 4 then a.set off x else a
def N4.setHi (b : N4) (off : Nat) (x : BitVec 64) : N4 := if off < 4 then b else b.set (off - 4) x
def setCellS : List IV → Nat → IV → Option (List IV × List Prop)
  | [i], off, x => (upIn i off x).map fun j => ([j], [off < i.size])
  | [.n4 a, .n4 b], off, .u64 x => some ([.n4 (a.setLo off x), .n4 (b.setHi off x)], [off < 8])
  | l, off, x => (setCell l off x).map (·, [])
theorem setCellS_ok {l m : List IV} {off : Nat} {c : IV} {cs : List Prop} (h : setCellS l off c = some (m, cs)) (hc : AllP cs) : setCell l off c = some m := by
  unfold setCellS at h
  split at h
  · rename_i i
    cases ha : upIn i off c with
    | none => simp [ha] at h
    | some y =>
      simp [ha] at h
      obtain ⟨rfl, rfl⟩ := h
      simp only [setCell]
      rw [if_pos hc.1, ha]
      rfl
  · rename_i a b x
    simp at h
    obtain ⟨rfl, rfl⟩ := h
    have hlt : off < 8 := hc.1
    simp only [setCell, N4.setLo, N4.setHi]
    by_cases h4 : off < 4
    · rw [if_pos (show off < (IV.n4 a).size from h4), if_pos h4, if_pos h4]
      rfl
    · rw [if_neg (show ¬ off < (IV.n4 a).size from h4), if_pos (show off - (IV.n4 a).size < (IV.n4 b).size from (by show off - 4 < 4; omega)), if_neg h4, if_neg h4]
      rfl
  · cases ha : setCell l off c with
    | none => simp [ha] at h
    | some y => simp [ha] at h; rw [h.1]

def loadRS (items : List IV) (off n : Nat) : Option (List IV × List Prop) :=
  match items, n with
  | [.vn m l], 4 => some ([.n4 (l.getD (off / 4) N4.zero)], [off % 4 = 0, off + 4 ≤ 4 * m])
  | [.v8 m l], 32 => if off == 0 then some ([.v8 32 l], [m = 32]) else (loadR [.v8 m l] off 32).map (·, [])
  | items, n => (loadR items off n).map (·, [])
theorem loadRS_ok {l m : List IV} {off n : Nat} {cs : List Prop} (h : loadRS l off n = some (m, cs)) (hc : AllP cs) : loadR l off n = some m := by
  unfold loadRS at h
  split at h
  · simp only [Option.some.injEq, Prod.mk.injEq] at h
    obtain ⟨rfl, rfl⟩ := h
    show (if _ ∧ _ then _ else _) = _
    rw [if_pos ⟨hc.1, hc.2.1⟩]
  · split at h
    · rename_i ho
      simp only [beq_iff_eq] at ho
      simp only [Option.some.injEq, Prod.mk.injEq] at h
      obtain ⟨rfl, rfl⟩ := h
      have hm := hc.1
      subst hm
      subst ho
      rfl
    · rename_i m l _
      cases ha : loadR [.v8 m l] off 32 with
      | none => simp [ha] at h
      | some y => simp [ha] at h; rw [h.1]
  · cases ha : loadR l off n with
    | none => simp [ha] at h
    | some y => simp [ha] at h; rw [h.1]
def aloadS (P : Program) (t : TypeId) (x : AV) (get : Nat → Option Blk) : SR :=
  match x.ptr? with
  | some (k, off) =>
    match get k, aggT P t, szT P t with
    | some b, some true, some n => (loadRS b.items off n).map fun l => (.val true l.1, [], l.2)
    | some b, some false, some _ => (getCellS b.items off).map fun c => (sc c.1, [], c.2)
    | _, _, _ => none
  | none => none
theorem aloadS_ok {P : Program} {t : TypeId} {x v : AV} {get : Nat → Option Blk} {upd : Upd} {cs : List Prop} (h : aloadS P t x get = some (v, upd, cs)) (hc : AllP cs) : aload P t x get = some (v, upd) := by
  unfold aloadS at h
  unfold aload
  split at h
  case h_2 => simp at h
  rename_i k off hp
  split at h
  case h_3 => simp at h
  · rename_i b n hb ha hs
    simp only [hp, hb, ha, hs]
    cases hr : loadRS b.items off n with
    | none => simp [hr] at h
    | some l => simp [hr] at h; obtain ⟨rfl, rfl, rfl⟩ := h; rw [loadRS_ok hr hc]; rfl
  · rename_i b n hb ha hs
    simp only [hp, hb, ha, hs]
    cases hr : getCellS b.items off with
    | none => simp [hr] at h
    | some l => simp [hr] at h; obtain ⟨rfl, rfl, rfl⟩ := h; rw [getCellS_ok hr hc]; rfl

def gloadS (P : Program) (t : TypeId) (g off : Nat) : SR :=
  match globAt globT g, aggT P t, szT P t with
  | some l, some true, some n => (getRange l off n).map fun m => (.val true m, [], [])
  | some l, some false, some _ => (getCellS l off).map fun c => (sc c.1, [], c.2)
  | _, _, _ => none
def aloadGS (P : Program) (t : TypeId) (x : AV) (get : Nat → Option Blk) : SR :=
  match x.gp? with
  | some q => gloadS P t q.1 q.2
  | none => aloadS P t x get
theorem aloadGS_ok {P : Program} {t : TypeId} {x v : AV} {get : Nat → Option Blk} {upd : Upd} {cs : List Prop} (h : aloadGS P t x get = some (v, upd, cs)) (hc : AllP cs) : aloadG P t x get = some (v, upd) := by
  unfold aloadGS at h
  unfold aloadG
  split at h
  · rename_i q hq
    simp only [hq]
    unfold gloadS at h
    unfold gload
    split at h
    case h_3 => simp at h
    · rename_i l n hb ha hs
      simp only [hb, ha, hs]
      cases hr : getRange l q.2 n with
      | none => simp [hr] at h
      | some l => simp [hr] at h; obtain ⟨rfl, rfl, rfl⟩ := h; rfl
    · rename_i l n hb ha hs
      simp only [hb, ha, hs]
      cases hr : getCellS l q.2 with
      | none => simp [hr] at h
      | some l => simp [hr] at h; obtain ⟨rfl, rfl, rfl⟩ := h; rw [getCellS_ok hr hc]; rfl
  · rename_i hq
    simp only [hq]
    exact aloadS_ok h hc
def indexAddrGS (P : Program) (t : TypeId) (x i : AV) : SR :=
  match x.gp? with
  | some q => match natS i with
    | some (j, cs) => match arrT P t with
      | some (n, e) => match szT P e with
        | some s => some (sc (.gp q.1 (q.2 + j * s)), [], cs ++ [j < n])
        | none => none
      | none => none
    | none => none
  | none => indexAddrS P t x i
theorem indexAddrGS_ok {P : Program} {t : TypeId} {x i v : AV} {upd : Upd} {cs : List Prop} (h : indexAddrGS P t x i = some (v, upd, cs)) (hc : AllP cs) : aindexAddrG P t x i = some (v, upd) := by
  unfold indexAddrGS at h
  unfold aindexAddrG
  split at h
  · rename_i q hq
    simp only [hq]
    split at h
    case h_2 => simp at h
    rename_i j cs' hj
    split at h
    case h_2 => simp at h
    rename_i n e ha
    split at h
    case h_2 => simp at h
    rename_i s hs
    simp at h
    obtain ⟨rfl, rfl, rfl⟩ := h
    obtain ⟨c1, c2⟩ := AllP_append hc
    simp only [natS_ok hj c1, gindex, ha, hs]
    rw [if_pos c2.1]
  · rename_i hq
    simp only [hq]
    exact indexAddrS_ok h hc

def astoreS (P : Program) (t : TypeId) (x y : AV) (get : Nat → Option Blk) : SR :=
  match x.ptr?, y with
  | some (k, off), .val false [c] =>
    match get k, szT P t with
    | some b, some 1 => if b.own then (setCellS b.items off c).map fun m => (.tup [], [(k, some ⟨true, m.1⟩)], m.2) else none
    | _, _ => none
  | _, _ => plainS (astore P t x y get)
theorem plainS_ok {r : Option (AV × Upd)} {v : AV} {upd : Upd} {cs : List Prop} (h : plainS r = some (v, upd, cs)) : r = some (v, upd) := by
  cases r with
  | none => simp [plainS] at h
  | some q => simp [plainS] at h; obtain ⟨rfl, rfl, rfl⟩ := h; rfl
theorem astoreS_ok {P : Program} {t : TypeId} {x y v : AV} {get : Nat → Option Blk} {upd : Upd} {cs : List Prop} (h : astoreS P t x y get = some (v, upd, cs)) (hc : AllP cs) : astore P t x y get = some (v, upd) := by
  unfold astoreS at h
  split at h
  · rename_i k off c hp
    split at h
    case h_2 => simp at h
    rename_i b hb hs
    split at h
    case isFalse => simp at h
    rename_i ho
    unfold astore
    simp only [hp, hb, ho, if_true, hs]
    cases hr : setCellS b.items off c with
    | none => simp [hr] at h
    | some l => simp [hr] at h; obtain ⟨rfl, rfl, rfl⟩ := h; rw [setCellS_ok hr hc]; rfl
  · exact plainS_ok h

/-- 'whole': a slice that begins with its block is all that is known of the block. -/
def rowOfS (whole : Bool) (get : Nat → Option Blk) (k off len : Nat) : Option (Row × List Prop) :=
  match get k with
  | some b =>
    match b.items with
    | [.vi n l] => if whole && off == 0 then some (.i l, [len = n]) else some (.i (cutL l off len n), [off + len ≤ n])
    | [.v8 n l] => if whole && off == 0 then some (.b l, [len = n]) else some (.b (cutL l off len n), [off + len ≤ n])
    | [.v32 n l] => if whole && off == 0 then some (.w l, [len = n]) else some (.w (cutL l off len n), [off + len ≤ n])
    | [.vd x] => if off == 0 then some (.d x, [len = (dg x).length]) else none
    | [.v64 n l] => if whole && off == 0 then some (.q l, [len = n]) else some (.q (cutL l off len n), [off + len ≤ n])
    | _ => none
  | none => none
theorem rowOfS_ok {whole : Bool} {get : Nat → Option Blk} {k off len : Nat} {r : Row} {cs : List Prop} (h : rowOfS whole get k off len = some (r, cs)) (hc : AllP cs) : rowOf get k off len = some r := by
  unfold rowOfS at h
  unfold rowOf
  split at h
  case h_2 => simp at h
  rename_i b hb
  simp only [hb]
  split at h
  case h_6 => simp at h
  case h_4 =>
    rename_i x hit
    simp only [hit]
    split at h
    · rename_i hw
      simp only [beq_iff_eq] at hw
      simp at h
      obtain ⟨rfl, rfl⟩ := h
      rw [if_pos ⟨hw, hc.1⟩]
    · simp at h
  all_goals
    rename_i n l hit
    simp only [hit]
    split at h
    · rename_i hw
      simp only [Bool.and_eq_true, beq_iff_eq] at hw
      obtain ⟨hw1, hw2⟩ := hw
      simp at h
      obtain ⟨rfl, rfl⟩ := h
      have hn := hc.1
      subst hw2 hn
      rw [if_pos (by omega)]
      simp [cutL]
    · simp at h
      obtain ⟨rfl, rfl⟩ := h
      rw [if_pos hc.1]

def asliceS (P : Program) (t : TypeId) (x : AV) (lo hi mx : Option AV) (get : Nat → Option Blk) : SR :=
  match x.ptr? with
  | some _ => plainS (aslice P t x lo hi mx get)
  | none =>
    match x.sl? with
    | some (k, off, len) =>
      match slT P t with
      | some e =>
        match szT P e, natOrS lo 0, natOrS hi len, mx with
        | some 1, some (l, c1), some (m, c2), none => some (sc (.sl k (off + l) (m - l)), [], c1 ++ (c2 ++ [l ≤ m, m ≤ len]))
        | some 1, some (l, c1), some (m, c2), some y =>
          match natOrS (some y) len, hi.isSome with
          | some (c, c3), true => some (sc (.sl k (off + l) (m - l)), [], c1 ++ (c2 ++ (c3 ++ [l ≤ m, m ≤ c, c ≤ len])))
          | _, _ => none
        | _, _, _, _ => none
      | none => none
    | none => none
theorem asliceS_ok {P : Program} {t : TypeId} {x v : AV} {lo hi mx : Option AV} {get : Nat → Option Blk} {upd : Upd} {cs : List Prop} (h : asliceS P t x lo hi mx get = some (v, upd, cs)) (hc : AllP cs) : aslice P t x lo hi mx get = some (v, upd) := by
  unfold asliceS at h
  split at h
  · exact plainS_ok h
  rename_i hp
  split at h
  case h_2 => simp at h
  rename_i k off len hsl
  split at h
  case h_2 => simp at h
  rename_i e he
  split at h
  case h_3 => simp at h
  case h_2 =>
    rename_i l c1 m c2 y hs h1 h2
    split at h
    case h_2 => simp at h
    rename_i c c3 h3 hi'
    simp at h
    obtain ⟨rfl, rfl, rfl⟩ := h
    obtain ⟨q1, q2⟩ := AllP_append hc
    obtain ⟨q3, q4⟩ := AllP_append q2
    obtain ⟨q5, q6⟩ := AllP_append q4
    unfold aslice
    simp only [hp, hsl, he, hs, natOrS_ok h1 q1, natOrS_ok h2 q3, natOrS_ok h3 q5]
    rw [if_pos ⟨q6.1, q6.2.1, q6.2.2.1, fun _ => hi'⟩]
  rename_i l c1 m c2 hs h1 h2
  simp at h
  obtain ⟨rfl, rfl, rfl⟩ := h
  obtain ⟨q1, q2⟩ := AllP_append hc
  obtain ⟨q3, q4⟩ := AllP_append q2
  unfold aslice
  have e3 : natOr none len = some len := rfl
  simp only [hp, hsl, he, hs, natOrS_ok h1 q1, natOrS_ok h2 q3, e3]
  rw [if_pos ⟨q4.1, q4.2.1, Nat.le_refl _, by simp⟩]

def aconvertS (whole : Bool) (P : Program) (src dst : TypeId) (x : AV) (get : Nat → Option Blk) : SR :=
  match intT P dst with
  | some _ => plainS (aconvert P src dst x get)
  | none =>
    if strT P dst then
      match slT P src with
      | some e =>
        match intT P e with
        | some .u8 =>
          match x.one? with
          | some (.sl k off len) => match rowOfS whole get k off len with
            | some (.b l, cs) => some (sc (.str l), [], cs)
            | _ => none
          | some .nil => some (sc (.str []), [], [])
          | _ => none
        | _ => none
      | none => none
    else none
theorem aconvertS_ok {whole : Bool} {P : Program} {src dst : TypeId} {x v : AV} {get : Nat → Option Blk} {upd : Upd} {cs : List Prop} (h : aconvertS whole P src dst x get = some (v, upd, cs)) (hc : AllP cs) : aconvert P src dst x get = some (v, upd) := by
  unfold aconvertS at h
  split at h
  · exact plainS_ok h
  rename_i hd
  unfold aconvert
  simp only [hd]
  split at h
  case isFalse => simp at h
  rename_i hst
  rw [if_pos hst]
  split at h
  case h_2 => simp at h
  rename_i e he
  simp only [he]
  split at h
  case h_2 => simp at h
  rename_i hu
  simp only [hu]
  split at h
  case h_3 => simp at h
  · rename_i k off len hx
    simp only [hx]
    split at h
    case h_2 => simp at h
    rename_i l cs' hr
    simp at h
    obtain ⟨rfl, rfl, rfl⟩ := h
    rw [rowOfS_ok hr hc]
  · rename_i hx
    simp only [hx]
    simp at h
    obtain ⟨rfl, rfl, rfl⟩ := h
    rfl

def aappendS (whole : Bool) (P : Program) (t : TypeId) (dst src : AV) (get : Nat → Option Blk) (F : Nat) : SR :=
  match slT P t with
  | none => none
  | some e =>
    match szT P e, byT P e with
    | some 1, some by_ =>
      if oneZero (zT P e) then
        match src.sl? with
        | some (k', off', m) =>
          match rowOfS whole get k' off' m with
          | some (r, c1) =>
            match dst.one? with
            | some .nil => some (sc (.sl F 0 m), [(F, some ⟨true, [r.item]⟩)], c1 ++ [m * by_ ≤ 140737488355328 ∧ m ≤ 9223372036854775807])
            | some (.sl k 0 len) =>
              match get k, rowOfS whole get k 0 len with
              | some b, some (d, c2) =>
                match catRow d r with
                | some c => if b.own then some (sc (.sl F 0 (len + m)), [(k, none), (F, some ⟨true, [c.item]⟩)], c1 ++ (c2 ++ [(len + m) * by_ ≤ 140737488355328 ∧ len + m ≤ 9223372036854775807])) else none
                | none => none
              | _, _ => none
            | _ => none
          | none => none
        | none => none
      else none
    | _, _ => none
theorem aappendS_ok {whole : Bool} {P : Program} {t : TypeId} {x y v : AV} {get : Nat → Option Blk} {F : Nat} {upd : Upd} {cs : List Prop} (h : aappendS whole P t x y get F = some (v, upd, cs)) (hc : AllP cs) : aappend P t x y get F = some (v, upd) := by
  unfold aappendS at h
  unfold aappend
  split at h
  · simp at h
  rename_i e he
  simp only [he]
  split at h
  case h_2 => simp at h
  rename_i by_ hs hby
  simp only [hs, hby]
  split at h
  case isFalse => simp at h
  rename_i hz
  rw [if_pos hz]
  split at h
  case h_2 => simp at h
  rename_i k' off' m hsl
  simp only [hsl]
  split at h
  case h_2 => simp at h
  rename_i r c1 hr
  split at h
  case h_3 => simp at h
  · rename_i hx
    simp at h
    obtain ⟨rfl, rfl, rfl⟩ := h
    obtain ⟨q1, q2⟩ := AllP_append hc
    simp only [rowOfS_ok hr q1, hx]
    rw [if_pos q2.1]
  · rename_i k len hx
    split at h
    case h_2 => simp at h
    rename_i b d c2 hb hd
    split at h
    case h_2 => simp at h
    rename_i c hcat
    split at h
    case isFalse => simp at h
    rename_i ho
    simp at h
    obtain ⟨rfl, rfl, rfl⟩ := h
    obtain ⟨q1, q2⟩ := AllP_append hc
    obtain ⟨q3, q4⟩ := AllP_append q2
    simp only [rowOfS_ok hr q1, hx, hb, rowOfS_ok hd q3, hcat]
    rw [if_pos ⟨ho, q4.1⟩]

def aappendZS (whole : Bool) (P : Program) (t t' : TypeId) (dst n : AV) (get : Nat → Option Blk) (F : Nat) : SR :=
  match slT P t, intT P t', natS n with
  | some e, some .i64, some (m, c0) =>
    match szT P e, byT P e, zeroRow P e m with
    | some 1, some by_, some r =>
      match dst.one? with
      | some (.sl k 0 len) =>
        match get k, rowOfS whole get k 0 len with
        | some b, some (d, c2) =>
          match catRow d r with
          | some c => if b.own then some (sc (.sl F 0 (len + m)), [(k, none), (F, some ⟨true, [c.item]⟩)], c0 ++ (c2 ++ [0 < m ∧ (len + m) * by_ ≤ 140737488355328 ∧ len + m ≤ 9223372036854775807])) else none
          | none => none
        | _, _ => none
      | _ => none
    | _, _, _ => none
  | _, _, _ => none
theorem aappendZS_ok {whole : Bool} {P : Program} {t t' : TypeId} {x y v : AV} {get : Nat → Option Blk} {F : Nat} {upd : Upd} {cs : List Prop} (h : aappendZS whole P t t' x y get F = some (v, upd, cs)) (hc : AllP cs) : aappendZ P t t' x y get F = some (v, upd) := by
  unfold aappendZS at h
  unfold aappendZ
  split at h
  case h_2 => simp at h
  rename_i e m c0 he hit hm
  split at h
  case h_2 => simp at h
  rename_i by_ r hs hby hr
  split at h
  case h_2 => simp at h
  rename_i k len hd
  split at h
  case h_2 => simp at h
  rename_i b d c2 hk hdr
  split at h
  case h_2 => simp at h
  rename_i c hcat
  split at h
  case isFalse => simp at h
  rename_i hown
  simp at h
  obtain ⟨rfl, rfl, rfl⟩ := h
  obtain ⟨q0, q1⟩ := AllP_append hc
  obtain ⟨q2, q3, _⟩ := AllP_append q1
  simp only [he, hit, natS_ok hm q0, hs, hby, hr, hd, hk, rowOfS_ok hdr q2, hcat]
  rw [if_pos ⟨hown, q3.1, q3.2.1, q3.2.2⟩]

def acopyS (whole : Bool) (P : Program) (t : TypeId) (dst src : AV) (get : Nat → Option Blk) : SR :=
  match slT P t, dst.sl?, src.sl? with
  | some e, some (k, off, len), some (k', off', m) =>
    if off == 0 then
      match szT P e, get k, rowOfS whole get k' off' m with
      | some 1, some b, some (r, c1) => if b.own = true then some (sc (.i64 (m : Int)), [(k, some ⟨true, [r.item]⟩)], c1 ++ [m ≤ len, lsize b.items = lsize [r.item]]) else none
      | _, _, _ => none
    else plainS (acopy P t dst src get)
  | _, _, _ => none
theorem acopyS_ok {whole : Bool} {P : Program} {t : TypeId} {x y v : AV} {get : Nat → Option Blk} {upd : Upd} {cs : List Prop} (h : acopyS whole P t x y get = some (v, upd, cs)) (hc : AllP cs) : acopy P t x y get = some (v, upd) := by
  unfold acopyS at h
  split at h
  case h_2 => simp at h
  rename_i e k off len k' off' m he hd hs
  split at h
  · rename_i hw
    simp only [beq_iff_eq] at hw
    split at h
    case h_2 => simp at h
    rename_i b r c1 hsz hk hr
    split at h
    case isFalse => simp at h
    rename_i ho
    simp at h
    obtain ⟨rfl, rfl, rfl⟩ := h
    obtain ⟨q1, q2, q3, _⟩ := AllP_append hc
    unfold acopy
    simp only [he, hd, hs, hsz, hk, rowOfS_ok hr q1]
    rw [if_pos ⟨ho, q2⟩, setRangeW, if_pos ⟨hw, q3⟩]
    rfl
  · exact plainS_ok h
def amakeS (P : Program) (t : TypeId) (len cap : AV) (F : Nat) : SR :=
  match slT P t, natS len, natS cap with
  | some e, some (n, c1), some (c, c2) =>
    match szT P e, byT P e, zeroRow P e n with
    | some 1, some by_, some r => some (sc (.sl F 0 n), [(F, some ⟨true, [r.item]⟩)], c1 ++ (c2 ++ [n = c ∧ by_ * n ≤ 281474976710656 ∧ n ≤ 9223372036854775807]))
    | _, _, _ => none
  | _, _, _ => none
theorem amakeS_ok {P : Program} {t : TypeId} {x y v : AV} {F : Nat} {upd : Upd} {cs : List Prop} (h : amakeS P t x y F = some (v, upd, cs)) (hc : AllP cs) : amake P t x y F = some (v, upd) := by
  unfold amakeS at h
  split at h
  case h_2 => simp at h
  rename_i e n c1 c c2 he hn hcap
  split at h
  case h_2 => simp at h
  rename_i by_ r hs hby hz
  simp at h
  obtain ⟨rfl, rfl, rfl⟩ := h
  obtain ⟨q1, q2⟩ := AllP_append hc
  obtain ⟨q3, q4⟩ := AllP_append q2
  unfold amake
  simp only [he, natS_ok hn q1, natS_ok hcap q3, hs, hby, hz]
  rw [if_pos q4.1]

def inI64 (z : Int) : Prop := -9223372036854775808 ≤ z ∧ z ≤ 9223372036854775807
theorem wrap_in {z : Int} (h : inI64 z) : IntKind.i64.wrap z = z := by
  obtain ⟨h1, h2⟩ := h
  simp [IntKind.wrap, IntKind.signed, IntKind.bits]
  split <;> omega
def abinS (P : Program) (op : BinOp) (t : TypeId) (x y : IV) : Option (IV × List Prop) :=
  match op, x, y with
  | .add, .i64 a, .i64 b => some (.i64 (a + b), [inI64 (a + b)])
  | .sub, .i64 a, .i64 b => some (.i64 (a - b), [inI64 (a - b)])
  | .mul, .i64 a, .i64 b => some (.i64 (a * b), [inI64 (a * b)])
  | .quo, .i64 a, .i64 b => some (.i64 (a.tdiv b), [b ≠ 0, inI64 (a.tdiv b)])
  | .rem, .i64 a, .i64 b => some (.i64 (a.tmod b), [b ≠ 0])
  | .quo, .u64 a, .u64 b => some (.u64 (a / b), [b.toNat ≠ 0])
  | .rem, .u64 a, .u64 b => some (.u64 (a % b), [b.toNat ≠ 0])
  | .shl, .u64 a, .i64 m => some (.u64 (a <<< m.toNat), [0 ≤ m])
  | .shr, .u64 a, .i64 m => some (.u64 (a >>> m.toNat), [0 ≤ m])
  | .shl, .u32 a, .i64 m => some (.u32 (a <<< m.toNat), [0 ≤ m])
  | .shr, .u32 a, .i64 m => some (.u32 (a >>> m.toNat), [0 ≤ m])
  | .shl, .u8 a, .i64 m => some (.u8 (a <<< m.toNat), [0 ≤ m])
  | .shr, .u8 a, .i64 m => some (.u8 (a >>> m.toNat), [0 ≤ m])
  | op, x, y => (abin P op t x y).map (·, [])
theorem abinS_ok {P : Program} {op : BinOp} {t : TypeId} {x y z : IV} {cs : List Prop} (h : abinS P op t x y = some (z, cs)) (hc : AllP cs) : abin P op t x y = some z := by
  unfold abinS at h
  split at h
  case h_14 =>
    cases ha : abin P op t x y with
    | none => simp [ha] at h
    | some q => simp [ha] at h; rw [h.1]
  all_goals
    simp at h
    obtain ⟨rfl, rfl⟩ := h
  · simp [abin, isShift, ibin, wrap_in hc.1]
  · simp [abin, isShift, ibin, wrap_in hc.1]
  · simp [abin, isShift, ibin, wrap_in hc.1]
  · have := hc.1; simp [abin, isShift, ibin, wrap_in hc.2.1, this]
  · have := hc.1; simp [abin, isShift, ibin, this]
  · have := hc.1; simp [abin, isShift, ubin, this]
  · have := hc.1; simp [abin, isShift, ubin, this]
  all_goals (have := hc.1; simp [abin, isShift, ushift, amount, this])

/-! ### Calls -/
inductive CtS where
  | fn (spec : List AV → Option (AV × List Prop))
  | pre (n : IV → Option (Nat × List Prop))

open Classical in
noncomputable def CtS.up : CtS → Ct
  | .fn spec => .fn fun ds => match spec ds with
    | some (r, cs) => if AllP cs then some r else none
    | none => none
  | .pre n => .pre fun d => match n d with
    | some (m, cs) => if AllP cs then some m else none
    | none => none
noncomputable def upG (Γ : FuncId → Option CtS) : FuncId → Option Ct := fun f => (Γ f).map CtS.up

def toVnS (get : Nat → Option Blk) (k off len : Nat) : Option (IV × List Prop) :=
  match get k with
  | some b =>
    match b.items with
    | [.vn n l] => if off == 0 then some (.dn l, [len = n]) else none
    | _ => none
  | none => none
theorem toVnS_ok {get : Nat → Option Blk} {k off len : Nat} {j : IV} {cs : List Prop} (h : toVnS get k off len = some (j, cs)) (hc : AllP cs) : toI get (.sl k off len) = some j := by
  unfold toVnS at h
  split at h
  case h_2 => simp at h
  rename_i b hb
  split at h
  case h_2 => simp at h
  rename_i n l hit
  split at h
  case isFalse => simp at h
  rename_i ho
  simp only [beq_iff_eq] at ho
  simp at h
  obtain ⟨rfl, rfl⟩ := h
  have hr : rowOf get k off len = none := by simp [rowOf, hb, hit]
  simp only [toI, hr, hb, hit]
  rw [if_pos ⟨ho, hc.1⟩]
/-- Slices that lie in a block, as lists. -/
def rowsOfS (whole : Bool) (get : Nat → Option Blk) : List IV → Option (List Row × List Prop)
  | [] => some ([], [])
  | .sl k off len :: r => match rowOfS whole get k off len, rowsOfS whole get r with
    | some x, some l => some (x.1 :: l.1, x.2 ++ l.2)
    | _, _ => none
  | _ => none
theorem rowsOfS_ok {whole : Bool} {get : Nat → Option Blk} : ∀ {l : List IV} {rows : List Row} {cs : List Prop}, rowsOfS whole get l = some (rows, cs) → AllP cs → rowsOf get l = some rows
  | [], rows, cs, h, _ => by simp [rowsOfS] at h; obtain ⟨rfl, rfl⟩ := h; rfl
  | i :: r, rows, cs, h, hc => by
    cases i
    case sl k off len =>
      simp only [rowsOfS] at h
      split at h
      case h_2 => simp at h
      rename_i x l hx hl
      simp at h
      obtain ⟨rfl, rfl⟩ := h
      obtain ⟨q1, q2⟩ := AllP_append hc
      simp only [rowsOf, rowOfS_ok (cs := x.2) hx q1, rowsOfS_ok (cs := l.2) hl q2]
    all_goals simp [rowsOfS] at h
def toDsS (whole : Bool) (get : Nat → Option Blk) (k off len : Nat) : Option (IV × List Prop) :=
  match get k with
  | some b =>
    match b.items with
    | .sl a o m :: r =>
      if off == 0 && len == r.length + 1 then
        match rowsOfS whole get (.sl a o m :: r) with
        | some (rows, cs) => match allB rows with
          | some ls => some (.ds8 ls, cs)
          | none => (allI rows).map fun ls => (.dsI ls, cs)
        | none => none
      else none
    | _ => none
  | none => none
theorem toDsS_ok {whole : Bool} {get : Nat → Option Blk} {k off len : Nat} {j : IV} {cs : List Prop} (h : toDsS whole get k off len = some (j, cs)) (hc : AllP cs) : toI get (.sl k off len) = some j := by
  unfold toDsS at h
  split at h
  case h_2 => simp at h
  rename_i b hb
  split at h
  case h_2 => simp at h
  rename_i a o m r hit
  split at h
  case isFalse => simp at h
  rename_i ho
  simp only [Bool.and_eq_true, beq_iff_eq] at ho
  split at h
  case h_2 => simp at h
  rename_i rows cs' hrows
  have hr : rowOf get k off len = none := by simp [rowOf, hb, hit]
  have key : cs' = cs → toI get (.sl k off len) = (match allB rows with | some ls => some (.ds8 ls) | none => (allI rows).map .dsI) := by
    intro e
    subst e
    simp only [toI, hr, hb, hit]
    rw [if_pos ⟨ho.1, by rw [ho.2]; rfl⟩, rowsOfS_ok hrows hc]
    rfl
  split at h
  · rename_i ls hl
    simp at h
    obtain ⟨rfl, rfl⟩ := h
    rw [key rfl, hl]
  · rename_i hl
    cases hi : allI rows with
    | none => simp [hi] at h
    | some ls =>
      simp [hi] at h
      obtain ⟨rfl, rfl⟩ := h
      rw [key rfl, hl, hi]
      rfl
def toIS (whole : Bool) (get : Nat → Option Blk) : IV → Option (IV × List Prop)
  | .sl k off len =>
    match rowOfS whole get k off len with
    | some (.i l, cs) => some (.dI l, cs)
    | some (.d x, cs) => some (.dN x, cs)
    | some (.b l, cs) => some (.d8 l, cs)
    | some (.w l, cs) => some (.d32 l, cs)
    | some (.q l, cs) => some (.d64 l, cs)
    | none => match toVnS get k off len with
      | some q => some q
      | none => match toDsS whole get k off len with
        | some q => some q
        | none => (toI get (.sl k off len)).map (·, [])
  | i => (toI get i).map (·, [])
theorem toIS_ok {whole : Bool} {get : Nat → Option Blk} {i j : IV} {cs : List Prop} (h : toIS whole get i = some (j, cs)) (hc : AllP cs) : toI get i = some j := by
  have pl : ∀ {i : IV}, (toI get i).map (fun x => (x, ([] : List Prop))) = some (j, cs) → toI get i = some j := by
    intro i h
    cases ha : toI get i with
    | none => simp [ha] at h
    | some q => simp [ha] at h; rw [h.1]
  unfold toIS at h
  split at h
  · rename_i k off len
    split at h
    case h_6 =>
      split at h
      · rename_i q hq
        simp only [Option.some.injEq] at h
        subst h
        exact toVnS_ok hq hc
      · split at h
        · rename_i q hq
          simp only [Option.some.injEq] at h
          subst h
          exact toDsS_ok hq hc
        · exact pl h
    all_goals
      rename_i l cs' hr
      simp at h
      obtain ⟨rfl, rfl⟩ := h
      simp only [toI, rowOfS_ok hr hc]
  · exact pl h
def toLS (whole : Bool) (get : Nat → Option Blk) : List IV → Option (List IV × List Prop)
  | [] => some ([], [])
  | i :: r => match toIS whole get i, toLS whole get r with
    | some x, some l => some (x.1 :: l.1, x.2 ++ l.2)
    | _, _ => none
theorem toLS_ok {whole : Bool} {get : Nat → Option Blk} : ∀ {l m : List IV} {cs : List Prop}, toLS whole get l = some (m, cs) → AllP cs → toL get l = some m
  | [], m, cs, h, _ => by simp [toLS] at h; obtain ⟨rfl, rfl⟩ := h; rfl
  | i :: r, m, cs, h, hc => by
    simp only [toLS] at h
    split at h
    case h_2 => simp at h
    rename_i x l hx hl
    simp at h
    obtain ⟨rfl, rfl⟩ := h
    obtain ⟨q1, q2⟩ := AllP_append hc
    simp only [toL, toIS_ok hx q1, toLS_ok hl q2]
def toAS (whole : Bool) (get : Nat → Option Blk) : AV → Option (AV × List Prop)
  | .val g l => (toLS whole get l).map fun q => (.val g q.1, q.2)
  | .fn f [] [] => some (.fn f [] [], [])
  | _ => none
theorem toAS_ok {whole : Bool} {get : Nat → Option Blk} {x y : AV} {cs : List Prop} (h : toAS whole get x = some (y, cs)) (hc : AllP cs) : toA get x = some y := by
  unfold toAS at h
  split at h
  · rename_i g l
    cases hm : toLS whole get l with
    | none => simp [hm] at h
    | some q =>
      simp [hm] at h
      obtain ⟨rfl, rfl⟩ := h
      simp [toA, toLS_ok hm hc]
  · simp at h
    obtain ⟨rfl, rfl⟩ := h
    rfl
  · simp at h
def toAsS (whole : Bool) (get : Nat → Option Blk) : List AV → Option (List AV × List Prop)
  | [] => some ([], [])
  | i :: r => match toAS whole get i, toAsS whole get r with
    | some x, some l => some (x.1 :: l.1, x.2 ++ l.2)
    | _, _ => none
theorem toAsS_ok {whole : Bool} {get : Nat → Option Blk} : ∀ {l m : List AV} {cs : List Prop}, toAsS whole get l = some (m, cs) → AllP cs → toAs get l = some m
  | [], m, cs, h, _ => by simp [toAsS] at h; obtain ⟨rfl, rfl⟩ := h; rfl
  | i :: r, m, cs, h, hc => by
    simp only [toAsS] at h
    split at h
    case h_2 => simp at h
    rename_i x l hx hl
    simp at h
    obtain ⟨rfl, rfl⟩ := h
    obtain ⟨q1, q2⟩ := AllP_append hc
    simp only [toAs, toAS_ok hx q1, toAsS_ok hl q2]

def acallS (whole : Bool) (Γ : FuncId → Option CtS) (f : FuncId) (args : List AV) (get : Nat → Option Blk) (F : Nat) : SR :=
  match Γ f with
  | some (.fn spec) =>
    match toAsS whole get args with
    | some (ds, c1) =>
      match spec ds with
      | some (r, c2) => if (ofA F r).2.2 ≤ F + 16 then some ((ofA F r).1, mkU (ofA F r).2.1, c1 ++ c2) else none
      | none => none
    | none => none
  | some (.pre n) =>
    match args with
    | [.val false [.sl k off len]] =>
      match toIS whole get (.sl k off len) with
      | some (d, c1) =>
        match n d with
        | some (m, c2) => some (sc (.sl k off m), [], c1 ++ (c2 ++ [m ≤ len]))
        | none => none
      | none => none
    | _ => none
  | none => none
theorem acallS_ok {whole : Bool} {Γ : FuncId → Option CtS} {f : FuncId} {args : List AV} {get : Nat → Option Blk} {F : Nat} {v : AV} {upd : Upd} {cs : List Prop} (h : acallS whole Γ f args get F = some (v, upd, cs)) (hc : AllP cs) :
    acall (upG Γ) f args get F = some (v, upd) := by
  unfold acallS at h
  unfold acall upG
  split at h
  case h_3 => simp at h
  · rename_i spec hg
    split at h
    case h_2 => simp at h
    rename_i ds c1 hds
    split at h
    case h_2 => simp at h
    rename_i r c2 hr
    split at h
    case isFalse => simp at h
    rename_i hle
    simp at h
    obtain ⟨rfl, rfl, rfl⟩ := h
    obtain ⟨q1, q2⟩ := AllP_append hc
    simp only [hg, Option.map_some, CtS.up, toAsS_ok hds q1, hr, q2, if_true, hle]
  · rename_i n hg
    split at h
    case h_2 => simp at h
    rename_i k off len
    split at h
    case h_2 => simp at h
    rename_i d c1 hd
    split at h
    case h_2 => simp at h
    rename_i m c2 hm
    simp at h
    obtain ⟨rfl, rfl, rfl⟩ := h
    obtain ⟨q1, q2⟩ := AllP_append hc
    obtain ⟨q3, q4⟩ := AllP_append q2
    simp only [hg, Option.map_some, CtS.up, AV.one?, toIS_ok hd q1, hm, q3, if_true, q4.1]

/-! ### One operation -/
structure Hint where
  sym : Bool
  bit : Option Bool

def arrayAtS (P : Program) (t : TypeId) (x : AV) : SR :=
  match x.sl? with
  | some (k, off, len) => match arrT P t with
    | some (n, _) => some (sc (.ptr k off), [], [0 < n ∧ n ≤ len])
    | none => none
  | none => none
theorem arrayAtS_ok {P : Program} {t : TypeId} {x v : AV} {upd : Upd} {cs : List Prop} (h : arrayAtS P t x = some (v, upd, cs)) (hc : AllP cs) : aarrayAt P t x = some (v, upd) := by
  unfold arrayAtS at h
  unfold aarrayAt
  split at h
  case h_2 => simp at h
  rename_i k off len hs
  simp only [hs]
  split at h
  case h_2 => simp at h
  rename_i n e ha
  simp only [Option.some.injEq, Prod.mk.injEq] at h
  obtain ⟨rfl, rfl, rfl⟩ := h
  simp only [ha]
  rw [if_pos hc.1]
def coreS (whole : Bool) (P : Program) (Γ : FuncId → Option CtS) (sym : Bool) (o : Oper) (ev : Operand → AV) (get : Nat → Option Blk) (F : Nat) : SR :=
  match o.op with
  | .call c => match c.callee with
    | .builtin b => match sym, b, c.argTypes.toList, c.args.toList.map ev with
      | true, .append, [t, t'], [x, y] => if t = t' then aappendS whole P t x y get F else aappendZS whole P t t' x y get F
      | true, .copy, [t, _], [x, y] => acopyS whole P t x y get
      | _, b, ts, l => plainS (abuiltin P b ts l get F)
    | .value f => match ev f with
      | .fn g first [] => acallS whole Γ g (first.map (fun p => .val p.1 p.2) ++ c.args.toList.map ev) get F
      | _ => none
    | _ => none
  | op => if sym then
      match op with
      | .load t x => aloadGS P t (ev x) get
      | .store t x y => astoreS P t (ev x) (ev y) get
      | .binOp op t x y _ => match ev x, ev y with
        | .val false [a], .val false [b] => (abinS P op t a b).map fun z => (sc z.1, [], z.2)
        | .val true l, .val true m => (aeqAgg P op t l m).map fun z => (sc z, [], [])
        | _, _ => none
      | .convert src dst x => aconvertS whole P src dst (ev x) get
      | .makeSlice t l c => amakeS P t (ev l) (ev c) F
      | .slice t x lo hi mx => asliceS P t (ev x) (lo.map ev) (hi.map ev) (mx.map ev) get
      | .indexAddr t x i => indexAddrGS P t (ev x) (ev i)
      | .sliceToArrayPointer t x => arrayAtS P t (ev x)
      | _ => plainS (acore P (fun _ => none) o ev get F)
    else plainS (acore P (fun _ => none) o ev get F)

theorem acore_noCall {P : Program} {Γ Γ' : FuncId → Option Ct} {o : Oper} {ev : Operand → AV} {get : Nat → Option Blk} {F : Nat} (h : ∀ c, o.op ≠ .call c) : acore P Γ o ev get F = acore P Γ' o ev get F := by
  obtain ⟨dst, op, ty, pos, after, guard⟩ := o
  cases op <;> first | rfl | exact absurd rfl (h _) | (rename_i f a b; cases f <;> rfl)

theorem coreS_ok {whole : Bool} {P : Program} {Γ : FuncId → Option CtS} {sym : Bool} {o : Oper} {ev : Operand → AV} {get : Nat → Option Blk} {F : Nat} {v : AV} {upd : Upd} {cs : List Prop} (h : coreS whole P Γ sym o ev get F = some (v, upd, cs)) (hc : AllP cs) :
    acore P (upG Γ) o ev get F = some (v, upd) := by
  unfold coreS at h
  split at h
  · rename_i c hop
    unfold acore
    simp only [hop]
    split at h
    case h_3 => simp at h
    · rename_i b hb
      simp only [hb]
      split at h
      · rename_i t t' x y h1 h2
        split at h
        case isFalse htt =>
          simp only [h1, h2, abuiltin, if_neg htt]
          exact aappendZS_ok h hc
        rename_i htt
        simp only [h1, h2, abuiltin, htt, if_true]
        exact htt ▸ aappendS_ok h hc
      · rename_i t t' x y h1 h2
        simp only [h1, h2, abuiltin]
        exact acopyS_ok h hc
      · exact plainS_ok h
    · rename_i f hf
      simp only [hf]
      split at h
      case h_2 => simp at h
      rename_i g first hg
      simp only [hg]
      exact acallS_ok h hc
  · rename_i op hno
    have hne : ∀ c, o.op ≠ .call c := fun c e => hno c e
    split at h
    case isFalse => rw [acore_noCall hne]; exact plainS_ok h
    split at h
    case h_9 => rw [acore_noCall hne]; exact plainS_ok h
    · rename_i hop; unfold acore; simp only [hop]; exact aloadGS_ok h hc
    · rename_i hop; unfold acore; simp only [hop]; exact astoreS_ok h hc
    · rename_i op t x y _ hop
      unfold acore
      simp only [hop]
      split at h
      case h_3 => simp at h
      · rename_i a b hx hy
        simp only [hx, hy]
        cases hz : abinS P op t a b with
        | none => simp [hz] at h
        | some z =>
          simp [hz] at h
          obtain ⟨rfl, rfl, rfl⟩ := h
          rw [abinS_ok hz hc]
          rfl
      · rename_i l m hx hy
        simp only [hx, hy]
        cases hz : aeqAgg P op t l m with
        | none => simp [hz] at h
        | some z => simp [hz] at h; obtain ⟨rfl, rfl, rfl⟩ := h; rfl
    · rename_i hop; unfold acore; simp only [hop]; exact aconvertS_ok h hc
    · rename_i hop; unfold acore; simp only [hop]; exact amakeS_ok h hc
    · rename_i hop; unfold acore; simp only [hop]; exact asliceS_ok h hc
    · rename_i hop; unfold acore; simp only [hop]; exact indexAddrGS_ok h hc
    · rename_i hop; unfold acore; simp only [hop]; exact arrayAtS_ok h hc

/-- A bool whose worth is told. -/
def bitS (b : Option Bool) (r : SR) : SR :=
  match b with
  | none => r
  | some x => match r with
    | some (.val false [.bool t], upd, cs) => some (sc (.bool x), upd, cs ++ [t = x])
    | _ => none
theorem bitS_ok {b : Option Bool} {r : SR} {v : AV} {upd : Upd} {cs : List Prop} (h : bitS b r = some (v, upd, cs)) (hc : AllP cs) : ∃ cs', r = some (v, upd, cs') ∧ AllP cs' := by
  unfold bitS at h
  split at h
  · exact ⟨cs, h, hc⟩
  · split at h
    case h_2 => simp at h
    rename_i t upd' cs'
    simp at h
    obtain ⟨rfl, rfl, rfl⟩ := h
    obtain ⟨q1, q2⟩ := AllP_append hc
    have := q2.1
    subst this
    exact ⟨cs', rfl, q1⟩

/-- For each region: are its operations taken as symbols; and the bools that are told. -/
/- 'inl': of a region in the text's order the operation `pos` calls a closure (or any function) that is told by a condition: its result, the memory behind it. -/
structure Inl where
  pos : Nat
  res : AV
  heap : Heap
  next : Nat
structure Orc where
  sym : Bool
  bits : List (Nat × Bool)
  part : List Nat
  inl : Option Inl
def bitAt : List (Nat × Bool) → Nat → Option Bool
  | [], _ => none
  | p :: r, i => if p.1 = i then some p.2 else bitAt r i

section
variable (P : Program) (Γ : FuncId → Option CtS)

def stepS (h : Orc) (N : Nat) (mask : Nat → Msk) (ops : Array Oper) (o : Oper) (i : Nat) (slots : List AV) (heap : Heap) : Option (List AV × Heap × List Prop) :=
  match wantedA ops slots o with
  | none => none
  | some false => some (putS slots o.dst (.tup []), heap, [])
  | some true =>
    match bitS (bitAt h.bits i) (coreS (!(h.part.any fun j => j == i)) P Γ h.sym o (aeval slots) (if readsOp o.op then fun k => if okId N (mask i) i k then hget heap k else none else fun _ => none) (N + 16 * i)) with
    | none => none
    | some (v, upd, cs) => if updOK N mask ops i o upd then some (putS slots o.dst v, hup heap upd, cs) else none

def runS (h : Orc) (N : Nat) (mask : Nat → Msk) (ops : Array Oper) : List Oper → Nat → List AV → Heap → Option (List AV × Heap × List Prop)
  | [], _, slots, heap => some (slots, heap, [])
  | o :: r, i, slots, heap =>
    match stepS P Γ h N mask ops o i slots heap with
    | some q => match runS h N mask ops r (i + 1) q.1 q.2.1 with
      | some p => some (p.1, p.2.1, q.2.2 ++ p.2.2)
      | none => none
    | none => none

def evRS (h : Orc) (ops : Array Oper) (draw : Bool) (s : St) : Option (St × List Prop) :=
  if draw && !(regOK ops.toList) then none
  else match runS P Γ h s.next (if draw then mkW (viewOf ops s.slots) ops else seqMask) ops ops.toList 0 s.slots s.heap with
    | some q => some (⟨q.1, q.2.1, s.next + 16 * ops.size⟩, q.2.2)
    | none => none
end

section
variable {P : Program} {Γ : FuncId → Option CtS}

theorem stepS_ok {h : Orc} {N : Nat} {mask : Nat → Msk} {ops : Array Oper} {o : Oper} {i : Nat} {slots : List AV} {heap : Heap} {q : List AV × Heap × List Prop} (hs : stepS P Γ h N mask ops o i slots heap = some q) (hc : AllP q.2.2) :
    stepL P (upG Γ) N mask ops o i slots heap = some (q.1, q.2.1) := by
  unfold stepS at hs
  unfold stepL
  split at hs
  · simp at hs
  · rename_i hw; simp at hs; subst hs; simp only [hw]
  · rename_i hw
    simp only [hw]
    split at hs
    · simp at hs
    · rename_i v upd cs hb
      split at hs
      case isFalse => simp at hs
      rename_i hall
      simp at hs
      subst hs
      obtain ⟨cs', h1, h2⟩ := bitS_ok hb hc
      simp only [coreS_ok h1 h2]
      rw [if_pos hall]

theorem runS_ok {h : Orc} {N : Nat} {mask : Nat → Msk} {ops : Array Oper} : ∀ (l : List Oper) (i : Nat) (slots : List AV) (heap : Heap) (q : List AV × Heap × List Prop), runS P Γ h N mask ops l i slots heap = some q → AllP q.2.2 →
    runL P (upG Γ) N mask ops l i slots heap = some (q.1, q.2.1) := by
  intro l
  induction l with
  | nil => intro i slots heap q hs _; simp [runS] at hs; subst hs; rfl
  | cons o r ih =>
    intro i slots heap q hs hc
    simp only [runS] at hs
    split at hs
    case h_2 => simp at hs
    rename_i q1 h1
    split at hs
    case h_2 => simp at hs
    rename_i p h2
    simp at hs
    subst hs
    obtain ⟨c1, c2⟩ := AllP_append hc
    simp only [runL, stepS_ok h1 c1]
    exact ih _ _ _ _ h2 c2

theorem evRS_ok {h : Orc} {ops : Array Oper} {draw : Bool} {s t : St} {cs : List Prop} (he : evRS P Γ h ops draw s = some (t, cs)) (hc : AllP cs) : evR P (upG Γ) ops draw s = some t := by
  unfold evRS at he
  unfold evR
  split at he
  · simp at he
  rename_i hd
  rw [if_neg hd]
  split at he
  case h_2 => simp at he
  rename_i q hq
  simp at he
  obtain ⟨rfl, rfl⟩ := he
  rw [runS_ok _ _ _ _ _ hq hc]

/-- A contract with conditions. -/
def FnS (P : Program) (f : FuncId) (spec : List AV → Option (AV × List Prop)) : Prop := CtOk P f (CtS.fn spec).up
def PreS (P : Program) (f : FuncId) (n : IV → Option (Nat × List Prop)) : Prop := CtOk P f (CtS.pre n).up
def CtSOk (P : Program) (f : FuncId) (c : CtS) : Prop := CtOk P f c.up

theorem FnS_intro {f : FuncId} {spec : List AV → Option (AV × List Prop)}
    (h : ∀ ds r cs, spec ds = some (r, cs) → AllP cs → ∀ (w : World) (vals : List Value), F2 (DV w) ds vals → CallsG P f vals.toArray w fun e w' => ∃ v, e = .returned v ∧ Below w.heap.size w w' ∧ ResOk w.heap.size w' r v) : FnS P f spec := by
  intro ds r hs
  simp only at hs
  split at hs
  case h_2 => simp at hs
  rename_i r' cs hsp
  split at hs <;> simp at hs
  subst hs
  exact h ds r' cs hsp ‹_›

theorem PreS_intro {f : FuncId} {n : IV → Option (Nat × List Prop)}
    (h : ∀ d m cs, n d = some (m, cs) → AllP cs → ∀ (w : World) (a : Option Addr) (len cap : Nat), DCells w d [.slice a len cap] →
      Calls P f #[.slice a len cap] w fun e w' => m ≤ len ∧ Below w.heap.size w w' ∧ ((∃ cap', e = .returned (.slice a m cap') ∧ m ≤ cap' ∧ cap' ≤ cap) ∨ (m = 0 ∧ ∃ a', e = .returned (.slice a' 0 0)))) : PreS P f n := by
  intro d m hs
  simp only at hs
  split at hs
  case h_2 => simp at hs
  rename_i m' cs hsp
  split at hs <;> simp at hs
  subst hs
  exact fun w a len cap hd _ => h d m' cs hsp ‹_› w a len cap hd

/-- A table of contracts. -/
def lookG : List (FuncId × CtS) → FuncId → Option CtS
  | [], _ => none
  | p :: r, f => if p.1 = f then some p.2 else lookG r f
def TblOk (P : Program) : List (FuncId × CtS) → Prop
  | [] => True
  | p :: r => (CtSOk P p.1 p.2 ∧ callable P p.1 = true) ∧ TblOk P r
theorem GSound_of_tbl : ∀ {l : List (FuncId × CtS)}, TblOk P l → GSound P (upG (lookG l)) := by
  intro l
  induction l with
  | nil => intro _ f c h; simp [upG, lookG] at h
  | cons p r ih =>
    intro h f c hc
    unfold upG lookG at hc
    split at hc
    · rename_i e
      simp at hc
      subst hc
      subst e
      exact h.1
    · exact ih h.2 f c hc

end
end Go.Ev
