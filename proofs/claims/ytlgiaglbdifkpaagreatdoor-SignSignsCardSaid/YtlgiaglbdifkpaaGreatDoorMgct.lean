/- Texts put together: ShA ShP ShB ShC ShD ShE ScA SgB CuM CuN CuO. Own work. -/
import Derived.Test.YtlgiaglbdifkpaaGreatDoorMgcs
/- SHA-512 of the program: words turned, the rounds' numbers. Own work. -/
namespace Go.Proofs.YtlgiaglbdifkpaaGreatDoor
open Go.Ev Go.Sp Go.RowKit
set_option maxRecDepth 100000
abbrev W6 := BitVec 64
/-- A word turned to the right. -/
def tR (w : W6) (n : Nat) : W6 := w >>> n ||| w <<< (64 - n)
theorem runTurnP (w : W6) (n b : Int) : fnS Tryz.prog (lookG []) (orcA []) [] 10 130 [sc (.u64 w), sc (.i64 n), sc (.i64 b)] =
    some (sc (IV.u64 (w >>> n.toNat ||| w <<< (b - n).toNat)), [(0 : Int) ≤ n, inI64 (b - n), (0 : Int) ≤ b - n]) := by kernel_rfl
def spTurnP : List AV → Option (AV × List Prop)
  | [.val false [.u64 w], .val false [.i64 n], .val false [.i64 b]] => some (sc (.u64 (tR w n.toNat)), [0 ≤ n, n ≤ 64, b = 64])
  | _ => none
theorem ctTurnP : CtSOk Tryz.prog 130 (.fn spTurnP) := FnS_of_fnS gs0 fol fun ds r cs h hc => by
  unfold spTurnP at h
  split at h
  case h_2 => simp at h
  rename_i w n b
  simp only [Option.some.injEq, Prod.mk.injEq] at h
  obtain ⟨rfl, rfl⟩ := h
  obtain ⟨h0, h1, h2, _⟩ := hc
  subst h2
  refine use_run (runTurnP w n 64) ?_ ?_
  · have e : ((64 : Int) - n).toNat = 64 - n.toNat := by omega
    rw [e]
    rfl
  · simp only [AllP, inI64]
    and_intros <;> first | omega | trivial
def tblTu : List (FuncId × CtS) := [(130, .fn spTurnP)]
theorem okTu : TblOk Tryz.prog tblTu := ⟨⟨ctTurnP, by kernel_rfl⟩, trivial⟩
theorem gsTu : GSound Tryz.prog (upG (lookG tblTu)) := GSound_of_tbl okTu
theorem runTurnedP (w : W6) (a b c : Int) : fnS Tryz.prog (lookG tblTu) orc0 [] 10 120 [sc (.u64 w), .val true [.vi 3 [a, b, c]], sc (.i64 64)] =
    some (sc (IV.u64 (tR w a.toNat ^^^ tR w b.toNat ^^^ tR w c.toNat)), [(0 : Int) ≤ a, a ≤ (64 : Int), (64 : Int) = (64 : Int), (0 : Int) ≤ b, b ≤ (64 : Int), (64 : Int) = (64 : Int), (0 : Int) ≤ c, c ≤ (64 : Int), (64 : Int) = (64 : Int)]) := by kernel_rfl
theorem runShiftedP (w : W6) (a b c : Int) : fnS Tryz.prog (lookG tblTu) (orcA []) [] 10 119 [sc (.u64 w), .val true [.vi 3 [a, b, c]], sc (.i64 64)] =
    some (sc (IV.u64 (tR w a.toNat ^^^ tR w b.toNat ^^^ w >>> c.toNat)), [(0 : Int) ≤ (0 : Int), 0 < 3, 0 < 3, (0 : Int) ≤ a, a ≤ (64 : Int), (64 : Int) = (64 : Int), (0 : Int) ≤ (1 : Int), 1 < 3, 1 < 3, (0 : Int) ≤ b, b ≤ (64 : Int), (64 : Int) = (64 : Int), (0 : Int) ≤ (2 : Int), 2 < 3, 2 < 3, (0 : Int) ≤ c]) := by kernel_rfl
def tR3 (w : W6) (a b c : Int) : W6 := tR w a.toNat ^^^ tR w b.toNat ^^^ tR w c.toNat
def sR3 (w : W6) (a b c : Int) : W6 := tR w a.toNat ^^^ tR w b.toNat ^^^ w >>> c.toNat
def spTurnedP : List AV → Option (AV × List Prop)
  | [.val false [.u64 w], .val true [.vi 3 [a, b, c]], .val false [.i64 64]] => some (sc (.u64 (tR3 w a b c)), [0 ≤ a, a ≤ 64, 0 ≤ b, b ≤ 64, 0 ≤ c, c ≤ 64])
  | _ => none
def spShiftedP : List AV → Option (AV × List Prop)
  | [.val false [.u64 w], .val true [.vi 3 [a, b, c]], .val false [.i64 64]] => some (sc (.u64 (sR3 w a b c)), [0 ≤ a, a ≤ 64, 0 ≤ b, b ≤ 64, 0 ≤ c])
  | _ => none
theorem ctTurnedP : CtSOk Tryz.prog 120 (.fn spTurnedP) := FnS_of_fnS gsTu fol fun ds r cs h hc => by
  unfold spTurnedP at h
  split at h
  case h_2 => simp at h
  rename_i w a b c
  simp only [Option.some.injEq, Prod.mk.injEq] at h
  obtain ⟨rfl, rfl⟩ := h
  obtain ⟨h0, h1, h2, h3, h4, h5, _⟩ := hc
  refine use_run (runTurnedP w a b c) rfl ?_
  simp only [AllP]
  and_intros <;> first | omega | trivial
theorem ctShiftedP : CtSOk Tryz.prog 119 (.fn spShiftedP) := FnS_of_fnS gsTu fol fun ds r cs h hc => by
  unfold spShiftedP at h
  split at h
  case h_2 => simp at h
  rename_i w a b c
  simp only [Option.some.injEq, Prod.mk.injEq] at h
  obtain ⟨rfl, rfl⟩ := h
  obtain ⟨h0, h1, h2, h3, h4, _⟩ := hc
  refine use_run (runShiftedP w a b c) rfl ?_
  simp only [AllP]
  and_intros <;> first | omega | trivial
theorem runKey (t : Int) : fnS Tryz.prog (lookG []) (orcA []) [] 10 92 [sc (.i64 t)] = some (sc (.u64 (k512L.getD (0 + t.toNat * 1) 0#64)), [(0 : Int) ≤ t, t.toNat < 80, 0 + t.toNat * 1 < 80]) := by kernel_rfl
/-- The word of a round, by whatever function. -/
def spKeyG (kk : Nat → W6) : List AV → Option (AV × List Prop)
  | [.val false [.i64 t]] => some (sc (.u64 (kk t.toNat)), [0 ≤ t, t < 80])
  | _ => none
def kW (t : Nat) : W6 := k512L.getD t 0#64
theorem ctKey : CtSOk Tryz.prog 92 (.fn (spKeyG kW)) := FnS_of_fnS gs0 fol fun ds r cs h hc => by
  unfold spKeyG at h
  split at h
  case h_2 => simp at h
  rename_i t
  simp only [Option.some.injEq, Prod.mk.injEq] at h
  obtain ⟨rfl, rfl⟩ := h
  obtain ⟨h0, h1, _⟩ := hc
  refine use_run (runKey t) (by rw [Nat.zero_add, Nat.mul_one, kW]) ?_
  simp only [AllP]
  and_intros <;> first | omega | trivial
def tblBl0 : List (FuncId × CtS) := [(120, .fn spTurnedP), (119, .fn spShiftedP)]
theorem okBl0 : TblOk Tryz.prog tblBl0 := ⟨⟨ctTurnedP, by kernel_rfl⟩, ⟨ctShiftedP, by kernel_rfl⟩, trivial⟩
theorem gsBl0 : GSound Tryz.prog (upG (lookG tblBl0)) := GSound_of_tbl okBl0
def tblBl (kk : Nat → W6) : List (FuncId × CtS) :=
  (92, .fn (spKeyG kk)) :: tblBl0
theorem gsBl : GSound Tryz.prog (upG (lookG (tblBl kW))) := GSound_of_tbl ⟨⟨ctKey, by kernel_rfl⟩, okBl0⟩
end Go.Proofs.YtlgiaglbdifkpaaGreatDoor
/- SHA-512, plain: words, rounds, blocks. Own work. -/
namespace Go.Proofs.YtlgiaglbdifkpaaGreatDoor
open Go.Ev Go.Sp Go.RowKit
set_option maxRecDepth 100000
/-- Eight words. -/
structure E8 where
  a : W6
  b : W6
  c : W6
  d : W6
  e : W6
  f : W6
  g : W6
  h : W6
def E8.lo (s : E8) : N4 := ⟨s.a, s.b, s.c, s.d⟩
def E8.hi (s : E8) : N4 := ⟨s.e, s.f, s.g, s.h⟩
def E8.of (x y : N4) : E8 := ⟨x.w0, x.w1, x.w2, x.w3, y.w0, y.w1, y.w2, y.w3⟩
def E8.list (s : E8) : List W6 := [s.a, s.b, s.c, s.d, s.e, s.f, s.g, s.h]
def E8.add (s t : E8) : E8 := ⟨s.a + t.a, s.b + t.b, s.c + t.c, s.d + t.d, s.e + t.e, s.f + t.f, s.g + t.g, s.h + t.h⟩
/-- One round. -/
def rnd (s : E8) (k w : W6) : E8 :=
  let one := s.h + tR3 s.e 14 18 41 + (s.e &&& s.f ^^^ ~~~s.e &&& s.g) + k + w
  let two := tR3 s.a 28 34 39 + (s.a &&& s.b ^^^ s.a &&& s.c ^^^ s.b &&& s.c)
  ⟨one + two, s.a, s.b, s.c, s.d + one, s.e, s.f, s.g⟩
/-- A block's first words. -/
def upB (x : W6) (b : BitVec 8) : W6 := x <<< 8 ||| b.setWidth 64
def partW (l : List (BitVec 8)) (j n : Nat) : W6 := (List.range n).foldl (fun x i => upB x (l.getD (8 * j + i) 0)) 0
def words16 (l : List (BitVec 8)) : List W6 := (List.range 16).map fun j => partW l j 8
/-- One word more. -/
def nextW (w : List W6) (n : Nat) : W6 := sR3 (w.getD (n - 2) 0) 19 61 6 + w.getD (n - 7) 0 + sR3 (w.getD (n - 15) 0) 1 8 7 + w.getD (n - 16) 0
def sched (l : List (BitVec 8)) : Nat → List W6
  | 0 => words16 l
  | n + 1 => sched l n ++ [nextW (sched l n) (16 + n)]
theorem partW_succ (l : List (BitVec 8)) (j n : Nat) : partW l j (n + 1) = upB (partW l j n) (l.getD (8 * j + n) 0) := by
  simp [partW, List.range_succ]
theorem words16_len (l : List (BitVec 8)) : (words16 l).length = 16 := by simp [words16]
theorem sched_len (l : List (BitVec 8)) : ∀ n, (sched l n).length = 16 + n
  | 0 => words16_len l
  | n + 1 => by rw [sched, List.length_append, sched_len l n]; rfl
/-- The word of a place. -/
def wd (l : List (BitVec 8)) (t : Nat) : W6 := (sched l t).getD t 0
theorem getD_app (a b : List W6) (i : Nat) (h : i < a.length) : (a ++ b).getD i 0 = a.getD i 0 := by
  simp [List.getD_eq_getElem?_getD, List.getElem?_append_left h]
theorem getD_app_end (a : List W6) (x : W6) : (a ++ [x]).getD a.length 0 = x := by simp
theorem sched_get (l : List (BitVec 8)) (t : Nat) : ∀ n, t < 16 + n → (sched l n).getD t 0 = (sched l (t - 15)).getD t 0
  | 0, h => by
    have : t - 15 = 0 := by omega
    rw [this]
  | n + 1, h => by
    by_cases e : t < 16 + n
    · rw [← sched_get l t n e, sched, getD_app _ _ _ (by rw [sched_len]; exact e)]
    · have : t - 15 = n + 1 := by omega
      rw [this]
theorem wd_get (l : List (BitVec 8)) (t n : Nat) (h : t < 16 + n) : (sched l n).getD t 0 = wd l t := by
  rw [wd, sched_get l t n h, sched_get l t t (by omega)]
theorem wd_low (l : List (BitVec 8)) (t : Nat) (h : t < 16) : (words16 l).getD t 0 = wd l t := wd_get l t 0 h
theorem wd_next (l : List (BitVec 8)) (t : Nat) (h : 16 ≤ t) : wd l t = sR3 (wd l (t - 2)) 19 61 6 + wd l (t - 7) + sR3 (wd l (t - 15)) 1 8 7 + wd l (t - 16) := by
  obtain ⟨n, rfl⟩ := Nat.exists_eq_add_of_le h
  have e := getD_app_end (sched l n) (nextW (sched l n) (16 + n))
  rw [sched_len] at e
  rw [← wd_get l (16 + n) (n + 1) (by omega), sched, e, nextW, wd_get l _ n (by omega), wd_get l _ n (by omega), wd_get l _ n (by omega), wd_get l _ n (by omega)]
/-- So many rounds. -/
def rnds (l : List (BitVec 8)) (v : E8) : Nat → E8
  | 0 => v
  | t + 1 => rnd (rnds l v t) (kW t) (wd l t)
def blk8 (v : E8) (l : List (BitVec 8)) : E8 := v.add (rnds l v 80)
/-- The program's ring of words ahead of round t. -/
def ri (t j : Nat) : Nat := max t 16 - 1 - (max t 16 + 15 - j) % 16
def ring (l : List (BitVec 8)) (t : Nat) : List W6 := (List.range 16).map fun j => wd l (ri t j)
theorem ring_len (l : List (BitVec 8)) (t : Nat) : (ring l t).length = 16 := by simp [ring]
theorem ring_get (l : List (BitVec 8)) (t j : Nat) (h : j < 16) : (ring l t).getD j 0 = wd l (ri t j) := by simp [ring, h]
theorem ring_zero (l : List (BitVec 8)) : ring l 0 = words16 l := by
  apply List.ext_getElem
  · rw [ring_len, words16_len]
  · intro j h1 h2
    rw [ring_len] at h1
    have e := wd_low l j h1
    rw [List.getD_eq_getElem?_getD, List.getElem?_eq_getElem h2, Option.getD_some] at e
    rw [e]
    simp only [ring, List.getElem_map, List.getElem_range]
    have : ri 0 j = j := by unfold ri; omega
    rw [this]
theorem ring_low (l : List (BitVec 8)) (t : Nat) (h : t < 16) : ring l (t + 1) = ring l t := by
  have : ∀ j, ri (t + 1) j = ri t j := fun j => by unfold ri; rw [show max (t + 1) 16 = 16 by omega, show max t 16 = 16 by omega]
  simp only [ring, this]
theorem ring_next (l : List (BitVec 8)) (t : Nat) (h : 16 ≤ t) : ring l (t + 1) = (ring l t).set (t % 16) (wd l t) := by
  apply List.ext_getElem
  · rw [List.length_set, ring_len, ring_len]
  · intro j h1 h2
    rw [ring_len] at h1
    rw [List.getElem_set]
    simp only [ring, List.getElem_map, List.getElem_range]
    split
    · rename_i e
      subst e
      congr 1
      unfold ri
      omega
    · rename_i e
      congr 1
      unfold ri
      omega
theorem fill_step (l : List (BitVec 8)) (i : Nat) (h : i < 128) : (List.range 16).map (fun j => partW l j (min 8 (i + 1 - 8 * j))) =
    ((List.range 16).map (fun j => partW l j (min 8 (i - 8 * j)))).set (i / 8) (upB (((List.range 16).map (fun j => partW l j (min 8 (i - 8 * j)))).getD (i / 8) 0) (l.getD i 0)) := by
  apply List.ext_getElem
  · simp
  · intro j h1 h2
    simp only [List.length_map, List.length_range] at h1
    rw [List.getElem_set]
    have e0 : i / 8 < 16 := by omega
    simp only [List.getElem_map, List.getElem_range, List.getD_eq_getElem?_getD, List.getElem?_map, List.getElem?_range, e0, Option.map_some, Option.getD_some]
    split
    · rename_i e
      subst e
      have e1 : min 8 (i + 1 - 8 * (i / 8)) = min 8 (i - 8 * (i / 8)) + 1 := by omega
      rw [e1, partW_succ, List.getD_eq_getElem?_getD]
      congr 4
      omega
    · rename_i e
      congr 1
      omega
/-- The words ahead of byte i. -/
def filled (l : List (BitVec 8)) (i : Nat) : List W6 := (List.range 16).map fun j => partW l j (min 8 (i - 8 * j))
theorem filled_all (l : List (BitVec 8)) : filled l 128 = words16 l := by
  unfold filled words16
  apply List.map_congr_left
  intro j hj
  rw [List.mem_range] at hj
  congr 1
  omega
theorem filled_zero (l : List (BitVec 8)) : filled l 0 = List.replicate 16 0 := by
  unfold filled
  simp [partW, List.range, List.range.loop]
end Go.Proofs.YtlgiaglbdifkpaaGreatDoor
/- SHA-512 of the program: one block. Own work. -/
namespace Go.Proofs.YtlgiaglbdifkpaaGreatDoor
open Go.Ev Go.Sp Go.RowKit
set_option maxRecDepth 100000
def keyF : AV := .fn 92 [] []
def zN4 : N4 := ⟨0#64, 0#64, 0#64, 0#64⟩
def b1Td : List Nat := [1, 3, 4, 6, 8, 9, 10, 24, 25]
def b1Inv (a b : N4) (l : List (BitVec 8)) (w : List W6) (n i : Int) : St := ⟨slotsOf 174 [(1, sc (.sl 0 0 l.length)), (3, keyF), (4, sc (.ptr 1 0)), (6, sc (.ptr 2 0)), (8, sc (.ptr 3 0)), (9, sc (.ptr 4 0)), (10, sc (.i64 8)), (24, sc (.i64 n)), (25, sc (.i64 i))],
  [(0, ⟨false, [.v8 l.length l]⟩), (1, ⟨true, [.n4 a, .n4 b]⟩), (2, ⟨true, greatL⟩), (3, ⟨true, [.n4 zN4, .n4 zN4]⟩), (4, ⟨true, [.v64 16 w]⟩)], 16⟩
def b1W (l : List (BitVec 8)) (w : List W6) (i : Int) : List W6 := w.set (0 + (i.tdiv 8).toNat * 1) (upB (w.getD (0 + (i.tdiv 8).toNat * 1) 0#64) (l.getD (0 + i.toNat * 1) 0#8))
theorem b1Round (kk : Nat → W6) (a b : N4) (l : List (BitVec 8)) (w : List W6) (n i : Int) : roundS Tryz.prog (lookG (tblBl kk)) (orcA [(4, [(0, true)])]) [] 10 b1Td (bodyAt Tryz.prog 91 4) (b1Inv a b l w n i) =
    some (.normal, b1Inv a b l (b1W l w i) n (i + 1), [decide (i < n) = true, (8 : Int) ≠ (0 : Int), inI64 (i.tdiv (8 : Int)), (8 : Int) ≠ (0 : Int), inI64 (i.tdiv (8 : Int)), (0 : Int) ≤ i.tdiv (8 : Int), (i.tdiv (8 : Int)).toNat < 16, 0 + (i.tdiv (8 : Int)).toNat * 1 < 16, (0 : Int) ≤ i, i.toNat < l.length, 0 + i.toNat * 1 < l.length, (0 : Int) ≤ i.tdiv (8 : Int), (i.tdiv (8 : Int)).toNat < 16, 0 + (i.tdiv (8 : Int)).toNat * 1 < 16, inI64 (i + (1 : Int))]) := by kernel_rfl
theorem b1Exit (kk : Nat → W6) (a b : N4) (l : List (BitVec 8)) (w : List W6) (n i : Int) : roundS Tryz.prog (lookG (tblBl kk)) (orcA [(4, [(0, false)])]) [] 10 b1Td (bodyAt Tryz.prog 91 4) (b1Inv a b l w n i) = some (.exit 0, b1Inv a b l w n i, [decide (i < n) = false]) := by kernel_rfl
def b2Td : List Nat := [3, 4, 6, 8, 9, 12, 47, 48]
def b2Inv (v : E8) (w : List W6) (s : E8) (i : Int) : St := ⟨slotsOf 174 [(3, keyF), (4, sc (.ptr 0 0)), (6, sc (.ptr 1 0)), (8, sc (.ptr 2 0)), (9, sc (.ptr 3 0)), (12, sc (.ptr 4 0)), (47, sc (.i64 80)), (48, sc (.i64 i))],
  [(0, ⟨true, [.n4 v.lo, .n4 v.hi]⟩), (1, ⟨true, greatL⟩), (2, ⟨true, [.n4 zN4, .n4 zN4]⟩), (3, ⟨true, [.v64 16 w]⟩), (4, ⟨true, [.n4 s.lo, .n4 s.hi]⟩)], 16⟩
def b2At (w : List W6) (i : Int) : W6 := w.getD (0 + (i.tmod 16).toNat * 1) 0#64
def b2X (w : List W6) (i : Int) : W6 := b2At w i + (sR3 (b2At w (i + 1)) 1 8 7 + b2At w (i + 9) + sR3 (b2At w (i + 14)) 19 61 6)
theorem b2Low (kk : Nat → W6) (v : E8) (w : List W6) (s : E8) (i : Int) : resOf (roundS Tryz.prog (lookG (tblBl kk)) (orcA [(10, [(0, true)]), (13, [(1, false)])]) [] 10 b2Td (bodyAt Tryz.prog 91 10) (b2Inv v w s i)) =
    some (.normal, b2Inv v w (rnd s (kk i.toNat) (b2At w i)) (i + 1)) := by kernel_rfl
theorem b2High (kk : Nat → W6) (v : E8) (w : List W6) (s : E8) (i : Int) : resOf (roundS Tryz.prog (lookG (tblBl kk)) (orcA [(10, [(0, true)]), (13, [(1, true)])]) [] 10 b2Td (bodyAt Tryz.prog 91 10) (b2Inv v w s i)) =
    some (.normal, b2Inv v (w.set (0 + (i.tmod 16).toNat * 1) (b2X w i)) (rnd s (kk i.toNat) (b2X w i)) (i + 1)) := by kernel_rfl
theorem b2LowC (kk : Nat → W6) (v : E8) (w : List W6) (s : E8) (i : Int) : csOf (roundS Tryz.prog (lookG (tblBl kk)) (orcA [(10, [(0, true)]), (13, [(1, false)])]) [] 10 b2Td (bodyAt Tryz.prog 91 10) (b2Inv v w s i)) =
    [decide (i < (80 : Int)) = true, (16 : Int) ≠ (0 : Int), (0 : Int) ≤ i.tmod (16 : Int), (i.tmod (16 : Int)).toNat < 16, 0 + (i.tmod (16 : Int)).toNat * 1 < 16, decide ((15 : Int) < i) = false, (0 : Int) ≤ (0 : Int), 0 < 8, 0 < 8, (0 : Int) ≤ (4 : Int), 4 < 8, 4 < 8, (0 : Int) ≤ (7 : Int), 7 < 8, 7 < 8, (0 : Int) ≤ (14 : Int), (14 : Int) ≤ (64 : Int), (0 : Int) ≤ (18 : Int), (18 : Int) ≤ (64 : Int), (0 : Int) ≤ (41 : Int), (41 : Int) ≤ (64 : Int), (0 : Int) ≤ (5 : Int), 5 < 8, 5 < 8, (0 : Int) ≤ (6 : Int), 6 < 8, 6 < 8, (0 : Int) ≤ i, i < (80 : Int), (0 : Int) ≤ (28 : Int), (28 : Int) ≤ (64 : Int), (0 : Int) ≤ (34 : Int), (34 : Int) ≤ (64 : Int), (0 : Int) ≤ (39 : Int), (39 : Int) ≤ (64 : Int), (0 : Int) ≤ (1 : Int), 1 < 8, 1 < 8, (0 : Int) ≤ (2 : Int), 2 < 8, 2 < 8, (0 : Int) ≤ (1 : Int), 1 < 8, 1 < 8, (0 : Int) ≤ (2 : Int), 2 < 8, 2 < 8, (0 : Int) ≤ (1 : Int), 1 < 8, 1 < 8, (0 : Int) ≤ (2 : Int), 2 < 8, 2 < 8, (0 : Int) ≤ (3 : Int), 3 < 8, 3 < 8, (0 : Int) ≤ (5 : Int), 5 < 8, 5 < 8, (0 : Int) ≤ (6 : Int), 6 < 8, 6 < 8, inI64 (i + (1 : Int))] := by kernel_rfl
theorem b2HighC (kk : Nat → W6) (v : E8) (w : List W6) (s : E8) (i : Int) : csOf (roundS Tryz.prog (lookG (tblBl kk)) (orcA [(10, [(0, true)]), (13, [(1, true)])]) [] 10 b2Td (bodyAt Tryz.prog 91 10) (b2Inv v w s i)) =
    [decide (i < (80 : Int)) = true, (16 : Int) ≠ (0 : Int), (0 : Int) ≤ i.tmod (16 : Int), (i.tmod (16 : Int)).toNat < 16, 0 + (i.tmod (16 : Int)).toNat * 1 < 16, decide ((15 : Int) < i) = true, inI64 (i + (1 : Int)), (16 : Int) ≠ (0 : Int), (0 : Int) ≤ (i + (1 : Int)).tmod (16 : Int), ((i + (1 : Int)).tmod (16 : Int)).toNat < 16, 0 + ((i + (1 : Int)).tmod (16 : Int)).toNat * 1 < 16, (0 : Int) ≤ (1 : Int), (1 : Int) ≤ (64 : Int), (0 : Int) ≤ (8 : Int), (8 : Int) ≤ (64 : Int), (0 : Int) ≤ (7 : Int), inI64 (i + (9 : Int)), (16 : Int) ≠ (0 : Int), (0 : Int) ≤ (i + (9 : Int)).tmod (16 : Int), ((i + (9 : Int)).tmod (16 : Int)).toNat < 16, 0 + ((i + (9 : Int)).tmod (16 : Int)).toNat * 1 < 16, inI64 (i + (14 : Int)), (16 : Int) ≠ (0 : Int), (0 : Int) ≤ (i + (14 : Int)).tmod (16 : Int), ((i + (14 : Int)).tmod (16 : Int)).toNat < 16, 0 + ((i + (14 : Int)).tmod (16 : Int)).toNat * 1 < 16, (0 : Int) ≤ (19 : Int), (19 : Int) ≤ (64 : Int), (0 : Int) ≤ (61 : Int), (61 : Int) ≤ (64 : Int), (0 : Int) ≤ (6 : Int), (16 : Int) ≠ (0 : Int), (0 : Int) ≤ i.tmod (16 : Int), (i.tmod (16 : Int)).toNat < 16, 0 + (i.tmod (16 : Int)).toNat * 1 < 16, (0 : Int) ≤ (0 : Int), 0 < 8, 0 < 8, (0 : Int) ≤ (4 : Int), 4 < 8, 4 < 8, (0 : Int) ≤ (7 : Int), 7 < 8, 7 < 8, (0 : Int) ≤ (14 : Int), (14 : Int) ≤ (64 : Int), (0 : Int) ≤ (18 : Int), (18 : Int) ≤ (64 : Int), (0 : Int) ≤ (41 : Int), (41 : Int) ≤ (64 : Int), (0 : Int) ≤ (5 : Int), 5 < 8, 5 < 8, (0 : Int) ≤ (6 : Int), 6 < 8, 6 < 8, (0 : Int) ≤ i, i < (80 : Int), (0 : Int) ≤ (28 : Int), (28 : Int) ≤ (64 : Int), (0 : Int) ≤ (34 : Int), (34 : Int) ≤ (64 : Int), (0 : Int) ≤ (39 : Int), (39 : Int) ≤ (64 : Int), (0 : Int) ≤ (1 : Int), 1 < 8, 1 < 8, (0 : Int) ≤ (2 : Int), 2 < 8, 2 < 8, (0 : Int) ≤ (1 : Int), 1 < 8, 1 < 8, (0 : Int) ≤ (2 : Int), 2 < 8, 2 < 8, (0 : Int) ≤ (1 : Int), 1 < 8, 1 < 8, (0 : Int) ≤ (2 : Int), 2 < 8, 2 < 8, (0 : Int) ≤ (3 : Int), 3 < 8, 3 < 8, (0 : Int) ≤ (5 : Int), 5 < 8, 5 < 8, (0 : Int) ≤ (6 : Int), 6 < 8, 6 < 8, inI64 (i + (1 : Int))] := by kernel_rfl
theorem b2Exit (kk : Nat → W6) (v : E8) (w : List W6) (s : E8) (i : Int) : roundS Tryz.prog (lookG (tblBl kk)) (orcA [(10, [(0, false)])]) [] 10 b2Td (bodyAt Tryz.prog 91 10) (b2Inv v w s i) = some (.exit 2, b2Inv v w s i, [decide (i < (80 : Int)) = false]) := by kernel_rfl
theorem blkRes (kk : Nat → W6) (v s : E8) (l : List (BitVec 8)) (w w' : List W6) (n i : Int) : fnS Tryz.prog (lookG (tblBl kk)) orc0 [⟨4, b1Td, .exit 0, b1Inv v.lo v.hi l w n i⟩, ⟨10, b2Td, .exit 2, b2Inv v w' s 80⟩] 10 91 [.val true [.n4 v.lo, .n4 v.hi], sc (.d8 l), .val true greatL, keyF] =
    some (.val true [.n4 (v.add s).lo, .n4 (v.add s).hi], [LoopTo Tryz.prog (bodyAt Tryz.prog 91 4) (b1Inv v.lo v.hi l (List.replicate 16 0#64) l.length 0) (.exit 0) (b1Inv v.lo v.hi l w n i), LoopTo Tryz.prog (bodyAt Tryz.prog 91 10) (b2Inv v w v 0) (.exit 2) (b2Inv v w' s 80)]) := by kernel_rfl
end Go.Proofs.YtlgiaglbdifkpaaGreatDoor
/- SHA-512 of the program: a block's contract. Own work. -/
namespace Go.Proofs.YtlgiaglbdifkpaaGreatDoor
open Go.Ev Go.Sp Go.RowKit
set_option maxRecDepth 100000
theorem td8 (k : Nat) : ((k : Nat) : Int).tdiv 8 = ((k / 8 : Nat) : Int) := (Int.ofNat_tdiv k 8).symm
theorem tm16 (k : Nat) : ((k : Nat) : Int).tmod 16 = ((k % 16 : Nat) : Int) := (Int.ofNat_tmod k 16).symm
theorem b1Loop (v : E8) (l : List (BitVec 8)) (hl : l.length = 128) : LoopTo Tryz.prog (bodyAt Tryz.prog 91 4) (b1Inv v.lo v.hi l (List.replicate 16 0#64) l.length 0) (.exit 0) (b1Inv v.lo v.hi l (words16 l) l.length 128) := by
  have h0 := LoopTo.intro (P := Tryz.prog) (α := Nat) gsBl fol (c := bodyAt Tryz.prog 91 4) (e := .exit 0) (σ' := b1Inv v.lo v.hi l (words16 l) l.length 128) (fun k => b1Inv v.lo v.hi l (filled l k) l.length (k : Nat)) (fun k => k ≤ 128) (fun k => 128 - k) (by simp) ?_ 0 (by omega)
  · rw [filled_zero] at h0
    exact h0
  intro k hk
  by_cases he : k = 128
  · subst he
    refine .inr ⟨_, _, _, _, _, by rw [filled_all]; exact b1Exit kW v.lo v.hi l (words16 l) l.length 128, ?_⟩
    refine ⟨decide_eq_false (by omega), trivial⟩
  · have r0 := b1Round kW v.lo v.hi l (filled l k) l.length k
    have e : b1W l (filled l k) k = filled l (k + 1) := by
      unfold b1W
      rw [td8, Int.toNat_natCast, Int.toNat_natCast, Nat.zero_add, Nat.mul_one, Nat.zero_add, Nat.mul_one]
      exact (fill_step l k (by omega)).symm
    rw [e] at r0
    refine .inl ⟨_, _, _, _, _, k + 1, r0, ?_, by omega, by omega⟩
    clear r0 e
    rw [td8]
    simp only [AllP, inI64]
    and_intros <;> first | exact True.intro | exact decide_eq_true (by omega) | omega
theorem b2At_ring (l : List (BitVec 8)) (t j : Nat) (h : j % 16 < 16) : b2At (ring l t) ((j : Nat) : Int) = wd l (ri t (j % 16)) := by
  unfold b2At
  rw [tm16, Int.toNat_natCast, Nat.zero_add, Nat.mul_one]
  exact ring_get l t _ h
theorem b2X_ring (l : List (BitVec 8)) (t : Nat) (h : 16 ≤ t) : b2X (ring l t) ((t : Nat) : Int) = wd l t := by
  unfold b2X
  rw [show ((t : Nat) : Int) + 1 = ((t + 1 : Nat) : Int) by omega, show ((t : Nat) : Int) + 9 = ((t + 9 : Nat) : Int) by omega, show ((t : Nat) : Int) + 14 = ((t + 14 : Nat) : Int) by omega,
    b2At_ring l t t (by omega), b2At_ring l t _ (by omega), b2At_ring l t _ (by omega), b2At_ring l t _ (by omega)]
  have e0 : ri t (t % 16) = t - 16 := by unfold ri; omega
  have e1 : ri t ((t + 1) % 16) = t - 15 := by unfold ri; omega
  have e2 : ri t ((t + 9) % 16) = t - 7 := by unfold ri; omega
  have e3 : ri t ((t + 14) % 16) = t - 2 := by unfold ri; omega
  rw [e0, e1, e2, e3, wd_next l t h]
  generalize sR3 (wd l (t - 15)) 1 8 7 = p
  generalize sR3 (wd l (t - 2)) 19 61 6 = q
  generalize wd l (t - 7) = r
  generalize wd l (t - 16) = x
  ac_rfl
theorem castS (t : Nat) : ((t + 1 : Nat) : Int) = (t : Int) + 1 := by omega
theorem rnds_succ (l : List (BitVec 8)) (v : E8) (t : Nat) : rnds l v (t + 1) = rnd (rnds l v t) (kW t) (wd l t) := rfl
theorem b2Loop (v : E8) (l : List (BitVec 8)) : LoopTo Tryz.prog (bodyAt Tryz.prog 91 10) (b2Inv v (words16 l) v 0) (.exit 2) (b2Inv v (ring l 80) (rnds l v 80) 80) := by
  have h0 := LoopTo.intro (P := Tryz.prog) (α := Nat) gsBl fol (c := bodyAt Tryz.prog 91 10) (e := .exit 2) (σ' := b2Inv v (ring l 80) (rnds l v 80) 80) (fun t => b2Inv v (ring l t) (rnds l v t) (t : Nat)) (fun t => t ≤ 80) (fun t => 80 - t) (by simp) ?_ 0 (by omega)
  · rw [ring_zero] at h0
    exact h0
  intro t ht
  by_cases he : t = 80
  · subst he
    exact .inr ⟨_, _, _, _, _, b2Exit kW v (ring l 80) (rnds l v 80) 80, ⟨rfl, trivial⟩⟩
  · by_cases h16 : t < 16
    · have r1 := b2Low kW v (ring l t) (rnds l v t) (t : Nat)
      have r2 := b2LowC kW v (ring l t) (rnds l v t) (t : Nat)
      have e : b2At (ring l t) ((t : Nat) : Int) = wd l t := by
        rw [b2At_ring l t t (by omega), show ri t (t % 16) = t by unfold ri; omega]
      have q : b2Inv v (ring l t) (rnd (rnds l v t) (kW t) (wd l t)) ((t : Nat) + 1) = b2Inv v (ring l (t + 1)) (rnds l v (t + 1)) ((t + 1 : Nat) : Int) := by
        rw [ring_low l t h16, rnds_succ, castS]
      rw [e, Int.toNat_natCast, q] at r1
      refine .inl ⟨_, _, _, _, _, t + 1, parts_eq r1 r2, ?_, by omega, by omega⟩
      clear r1 r2 e q
      rw [tm16]
      simp only [AllP, inI64]
      and_intros <;> first | exact True.intro | exact decide_eq_true (by omega) | exact decide_eq_false (by omega) | omega
    · have r1 := b2High kW v (ring l t) (rnds l v t) (t : Nat)
      have r2 := b2HighC kW v (ring l t) (rnds l v t) (t : Nat)
      rw [b2X_ring l t (by omega), tm16, Int.toNat_natCast, Int.toNat_natCast, Nat.zero_add, Nat.mul_one, ← ring_next l t (by omega)] at r1
      have q : b2Inv v (ring l (t + 1)) (rnd (rnds l v t) (kW t) (wd l t)) ((t : Nat) + 1) = b2Inv v (ring l (t + 1)) (rnds l v (t + 1)) ((t + 1 : Nat) : Int) := by
        rw [rnds_succ, castS]
      rw [q] at r1
      refine .inl ⟨_, _, _, _, _, t + 1, parts_eq r1 r2, ?_, by omega, by omega⟩
      clear r1 r2 q
      rw [show ((t : Nat) : Int) + 1 = ((t + 1 : Nat) : Int) by omega, show ((t : Nat) : Int) + 9 = ((t + 9 : Nat) : Int) by omega, show ((t : Nat) : Int) + 14 = ((t + 14 : Nat) : Int) by omega, tm16, tm16, tm16, tm16]
      simp only [AllP, inI64]
      and_intros <;> first | exact True.intro | exact decide_eq_true (by omega) | exact decide_eq_false (by omega) | omega
def spBlkP : List AV → Option (AV × List Prop)
  | [.val true [.n4 x, .n4 y], .val false [.d8 l], .val true k, .fn f [] []] => some (.val true [.n4 (blk8 (E8.of x y) l).lo, .n4 (blk8 (E8.of x y) l).hi], [l.length = 128, k = greatL, f = 92])
  | _ => none
theorem ctBlkP : CtSOk Tryz.prog 91 (.fn spBlkP) := FnS_of_fnS gsBl fol fun ds r cs h hc => by
  unfold spBlkP at h
  split at h
  case h_2 => simp at h
  rename_i x y l k f
  simp only [Option.some.injEq, Prod.mk.injEq] at h
  obtain ⟨rfl, rfl⟩ := h
  obtain ⟨hl, rfl, rfl, _⟩ := hc
  exact use_run (blkRes kW (E8.of x y) (rnds l (E8.of x y) 80) l (words16 l) (ring l 80) l.length 128) rfl ⟨b1Loop _ l hl, b2Loop _ l, trivial⟩
end Go.Proofs.YtlgiaglbdifkpaaGreatDoor
/- SHA-512 of the program: what stands behind the bytes; words told. Own work. -/
namespace Go.Proofs.YtlgiaglbdifkpaaGreatDoor
open Go.Ev Go.Sp Go.RowKit
set_option maxRecDepth 100000
def p1Td : List Nat := [1, 2, 7]
def p1Inv (l : List (BitVec 8)) (k : Nat) (n : Int) : St := ⟨slotsOf 49 [(1, sc (.i64 n)), (2, sc (.i64 128)), (7, sc (.sl 0 0 k))], [(0, ⟨true, [.v8 l.length l]⟩)], 16⟩
theorem p1Round (l : List (BitVec 8)) (k : Nat) (n : Int) : roundS Tryz.prog (lookG []) (orcA [(2, [(8, true)])]) [] 10 p1Td (bodyAt Tryz.prog 90 2) (p1Inv l k n) =
    some (Ex.normal, St.mk (slotsOf 49 [(1, sc (IV.i64 n)), (2, sc (IV.i64 (128 : Int))), (7, sc (IV.sl 0 0 (k + 1)))]) [(0, Blk.mk true [IV.v8 (l ++ (List.replicate 1 (BitVec.ofNat 8 0)).set 0 (BitVec.ofNat 8 0)).length (l ++ (List.replicate 1 (BitVec.ofNat 8 0)).set 0 (BitVec.ofNat 8 0))])] 16, [(128 : Int) ≠ (0 : Int), (8 : Int) ≠ (0 : Int), inI64 (16 : Int), inI64 (112 : Int), (!(↑k : Int).tmod (128 : Int) == (112 : Int)) = true, 1 = 1, k = l.length, (k + 1) * 1 ≤ 140737488355328 ∧ k + 1 ≤ 9223372036854775807]) := by kernel_rfl
theorem p1Exit (l : List (BitVec 8)) (k : Nat) (n : Int) : roundS Tryz.prog (lookG []) (orcA [(2, [(8, false)])]) [] 10 p1Td (bodyAt Tryz.prog 90 2) (p1Inv l k n) =
    some (Ex.exit 0, St.mk (slotsOf 49 [(1, sc (IV.i64 n)), (2, sc (IV.i64 (128 : Int))), (7, sc (IV.sl 0 0 k))]) [(0, Blk.mk true [IV.v8 l.length l])] 16, [(128 : Int) ≠ (0 : Int), (8 : Int) ≠ (0 : Int), inI64 (16 : Int), inI64 (112 : Int), (!(↑k : Int).tmod (128 : Int) == (112 : Int)) = false]) := by kernel_rfl
theorem runPad (l m : List (BitVec 8)) (k : Nat) (n : Int) : fnS Tryz.prog (lookG []) (orcA [(7, [])]) [⟨2, p1Td, .exit 0, p1Inv m k n⟩] 10 90 [sc (.d8 l), sc (.i64 n), sc (.i64 128)] =
    some (sc (IV.d8 (cutL (m ++ List.replicate 8 (BitVec.ofNat 8 0) ++ (List.replicate 1 (BitVec.ofNat 8 0)).set 0 (BitVec.setWidth 8 ((BitVec.ofInt 64 n * BitVec.ofNat 64 8) >>> 56)) ++ (List.replicate 1 (BitVec.ofNat 8 0)).set 0 (BitVec.setWidth 8 ((BitVec.ofInt 64 n * BitVec.ofNat 64 8) >>> 48)) ++ (List.replicate 1 (BitVec.ofNat 8 0)).set 0 (BitVec.setWidth 8 ((BitVec.ofInt 64 n * BitVec.ofNat 64 8) >>> 40)) ++ (List.replicate 1 (BitVec.ofNat 8 0)).set 0 (BitVec.setWidth 8 ((BitVec.ofInt 64 n * BitVec.ofNat 64 8) >>> 32)) ++ (List.replicate 1 (BitVec.ofNat 8 0)).set 0 (BitVec.setWidth 8 ((BitVec.ofInt 64 n * BitVec.ofNat 64 8) >>> 24)) ++ (List.replicate 1 (BitVec.ofNat 8 0)).set 0 (BitVec.setWidth 8 ((BitVec.ofInt 64 n * BitVec.ofNat 64 8) >>> 16)) ++ (List.replicate 1 (BitVec.ofNat 8 0)).set 0 (BitVec.setWidth 8 ((BitVec.ofInt 64 n * BitVec.ofNat 64 8) >>> 8)) ++ (List.replicate 1 (BitVec.ofNat 8 0)).set 0 (BitVec.setWidth 8 ((BitVec.ofInt 64 n * BitVec.ofNat 64 8) >>> 0))) 0 (k + 8 + 1 + 1 + 1 + 1 + 1 + 1 + 1 + 1) (m ++ List.replicate 8 (BitVec.ofNat 8 0) ++ (List.replicate 1 (BitVec.ofNat 8 0)).set 0 (BitVec.setWidth 8 ((BitVec.ofInt 64 n * BitVec.ofNat 64 8) >>> 56)) ++ (List.replicate 1 (BitVec.ofNat 8 0)).set 0 (BitVec.setWidth 8 ((BitVec.ofInt 64 n * BitVec.ofNat 64 8) >>> 48)) ++ (List.replicate 1 (BitVec.ofNat 8 0)).set 0 (BitVec.setWidth 8 ((BitVec.ofInt 64 n * BitVec.ofNat 64 8) >>> 40)) ++ (List.replicate 1 (BitVec.ofNat 8 0)).set 0 (BitVec.setWidth 8 ((BitVec.ofInt 64 n * BitVec.ofNat 64 8) >>> 32)) ++ (List.replicate 1 (BitVec.ofNat 8 0)).set 0 (BitVec.setWidth 8 ((BitVec.ofInt 64 n * BitVec.ofNat 64 8) >>> 24)) ++ (List.replicate 1 (BitVec.ofNat 8 0)).set 0 (BitVec.setWidth 8 ((BitVec.ofInt 64 n * BitVec.ofNat 64 8) >>> 16)) ++ (List.replicate 1 (BitVec.ofNat 8 0)).set 0 (BitVec.setWidth 8 ((BitVec.ofInt 64 n * BitVec.ofNat 64 8) >>> 8)) ++ (List.replicate 1 (BitVec.ofNat 8 0)).set 0 (BitVec.setWidth 8 ((BitVec.ofInt 64 n * BitVec.ofNat 64 8) >>> 0))).length)), [l.length = l.length, 0 = 0, (0 + l.length) * 1 ≤ 140737488355328 ∧ 0 + l.length ≤ 9223372036854775807, 1 = 1, 0 + l.length = l.length, (0 + l.length + 1) * 1 ≤ 140737488355328 ∧ 0 + l.length + 1 ≤ 9223372036854775807, LoopTo Tryz.prog (bodyAt Tryz.prog 90 2) (St.mk (slotsOf 49 [(1, sc (IV.i64 n)), (2, sc (IV.i64 (128 : Int))), (7, sc (IV.sl 0 0 (0 + l.length + 1)))]) [(0, Blk.mk true [IV.v8 (l ++ (List.replicate 1 (BitVec.ofNat 8 0)).set 0 (BitVec.ofNat 8 128)).length (l ++ (List.replicate 1 (BitVec.ofNat 8 0)).set 0 (BitVec.ofNat 8 128))])] 16) (Ex.exit 0) (St.mk (slotsOf 49 [(1, sc (IV.i64 n)), (2, sc (IV.i64 (128 : Int))), (7, sc (IV.sl 0 0 k))]) [(0, Blk.mk true [IV.v8 m.length m])] 16), (8 : Int) ≠ (0 : Int), inI64 (16 : Int), inI64 (8 : Int), (0 : Int) ≤ (8 : Int), k = m.length, 0 < 8 ∧ (k + 8) * 1 ≤ 140737488355328 ∧ k + 8 ≤ 9223372036854775807, inI64 (0 : Int), inI64 (56 : Int), (0 : Int) ≤ (56 : Int), 1 = 1, k + 8 = (m ++ List.replicate 8 (BitVec.ofNat 8 0)).length, (k + 8 + 1) * 1 ≤ 140737488355328 ∧ k + 8 + 1 ≤ 9223372036854775807, inI64 (1 : Int), inI64 (8 : Int), inI64 (48 : Int), (0 : Int) ≤ (48 : Int), 1 = 1, k + 8 + 1 = (m ++ List.replicate 8 (BitVec.ofNat 8 0) ++ (List.replicate 1 (BitVec.ofNat 8 0)).set 0 (BitVec.setWidth 8 ((BitVec.ofInt 64 n * BitVec.ofNat 64 8) >>> 56))).length, (k + 8 + 1 + 1) * 1 ≤ 140737488355328 ∧ k + 8 + 1 + 1 ≤ 9223372036854775807, inI64 (2 : Int), inI64 (16 : Int), inI64 (40 : Int), (0 : Int) ≤ (40 : Int), 1 = 1, k + 8 + 1 + 1 = (m ++ List.replicate 8 (BitVec.ofNat 8 0) ++ (List.replicate 1 (BitVec.ofNat 8 0)).set 0 (BitVec.setWidth 8 ((BitVec.ofInt 64 n * BitVec.ofNat 64 8) >>> 56)) ++ (List.replicate 1 (BitVec.ofNat 8 0)).set 0 (BitVec.setWidth 8 ((BitVec.ofInt 64 n * BitVec.ofNat 64 8) >>> 48))).length, (k + 8 + 1 + 1 + 1) * 1 ≤ 140737488355328 ∧ k + 8 + 1 + 1 + 1 ≤ 9223372036854775807, inI64 (3 : Int), inI64 (24 : Int), inI64 (32 : Int), (0 : Int) ≤ (32 : Int), 1 = 1, k + 8 + 1 + 1 + 1 = (m ++ List.replicate 8 (BitVec.ofNat 8 0) ++ (List.replicate 1 (BitVec.ofNat 8 0)).set 0 (BitVec.setWidth 8 ((BitVec.ofInt 64 n * BitVec.ofNat 64 8) >>> 56)) ++ (List.replicate 1 (BitVec.ofNat 8 0)).set 0 (BitVec.setWidth 8 ((BitVec.ofInt 64 n * BitVec.ofNat 64 8) >>> 48)) ++ (List.replicate 1 (BitVec.ofNat 8 0)).set 0 (BitVec.setWidth 8 ((BitVec.ofInt 64 n * BitVec.ofNat 64 8) >>> 40))).length, (k + 8 + 1 + 1 + 1 + 1) * 1 ≤ 140737488355328 ∧ k + 8 + 1 + 1 + 1 + 1 ≤ 9223372036854775807, inI64 (4 : Int), inI64 (32 : Int), inI64 (24 : Int), (0 : Int) ≤ (24 : Int), 1 = 1, k + 8 + 1 + 1 + 1 + 1 = (m ++ List.replicate 8 (BitVec.ofNat 8 0) ++ (List.replicate 1 (BitVec.ofNat 8 0)).set 0 (BitVec.setWidth 8 ((BitVec.ofInt 64 n * BitVec.ofNat 64 8) >>> 56)) ++ (List.replicate 1 (BitVec.ofNat 8 0)).set 0 (BitVec.setWidth 8 ((BitVec.ofInt 64 n * BitVec.ofNat 64 8) >>> 48)) ++ (List.replicate 1 (BitVec.ofNat 8 0)).set 0 (BitVec.setWidth 8 ((BitVec.ofInt 64 n * BitVec.ofNat 64 8) >>> 40)) ++ (List.replicate 1 (BitVec.ofNat 8 0)).set 0 (BitVec.setWidth 8 ((BitVec.ofInt 64 n * BitVec.ofNat 64 8) >>> 32))).length, (k + 8 + 1 + 1 + 1 + 1 + 1) * 1 ≤ 140737488355328 ∧ k + 8 + 1 + 1 + 1 + 1 + 1 ≤ 9223372036854775807, inI64 (5 : Int), inI64 (40 : Int), inI64 (16 : Int), (0 : Int) ≤ (16 : Int), 1 = 1, k + 8 + 1 + 1 + 1 + 1 + 1 = (m ++ List.replicate 8 (BitVec.ofNat 8 0) ++ (List.replicate 1 (BitVec.ofNat 8 0)).set 0 (BitVec.setWidth 8 ((BitVec.ofInt 64 n * BitVec.ofNat 64 8) >>> 56)) ++ (List.replicate 1 (BitVec.ofNat 8 0)).set 0 (BitVec.setWidth 8 ((BitVec.ofInt 64 n * BitVec.ofNat 64 8) >>> 48)) ++ (List.replicate 1 (BitVec.ofNat 8 0)).set 0 (BitVec.setWidth 8 ((BitVec.ofInt 64 n * BitVec.ofNat 64 8) >>> 40)) ++ (List.replicate 1 (BitVec.ofNat 8 0)).set 0 (BitVec.setWidth 8 ((BitVec.ofInt 64 n * BitVec.ofNat 64 8) >>> 32)) ++ (List.replicate 1 (BitVec.ofNat 8 0)).set 0 (BitVec.setWidth 8 ((BitVec.ofInt 64 n * BitVec.ofNat 64 8) >>> 24))).length, (k + 8 + 1 + 1 + 1 + 1 + 1 + 1) * 1 ≤ 140737488355328 ∧ k + 8 + 1 + 1 + 1 + 1 + 1 + 1 ≤ 9223372036854775807, inI64 (6 : Int), inI64 (48 : Int), inI64 (8 : Int), (0 : Int) ≤ (8 : Int), 1 = 1, k + 8 + 1 + 1 + 1 + 1 + 1 + 1 = (m ++ List.replicate 8 (BitVec.ofNat 8 0) ++ (List.replicate 1 (BitVec.ofNat 8 0)).set 0 (BitVec.setWidth 8 ((BitVec.ofInt 64 n * BitVec.ofNat 64 8) >>> 56)) ++ (List.replicate 1 (BitVec.ofNat 8 0)).set 0 (BitVec.setWidth 8 ((BitVec.ofInt 64 n * BitVec.ofNat 64 8) >>> 48)) ++ (List.replicate 1 (BitVec.ofNat 8 0)).set 0 (BitVec.setWidth 8 ((BitVec.ofInt 64 n * BitVec.ofNat 64 8) >>> 40)) ++ (List.replicate 1 (BitVec.ofNat 8 0)).set 0 (BitVec.setWidth 8 ((BitVec.ofInt 64 n * BitVec.ofNat 64 8) >>> 32)) ++ (List.replicate 1 (BitVec.ofNat 8 0)).set 0 (BitVec.setWidth 8 ((BitVec.ofInt 64 n * BitVec.ofNat 64 8) >>> 24)) ++ (List.replicate 1 (BitVec.ofNat 8 0)).set 0 (BitVec.setWidth 8 ((BitVec.ofInt 64 n * BitVec.ofNat 64 8) >>> 16))).length, (k + 8 + 1 + 1 + 1 + 1 + 1 + 1 + 1) * 1 ≤ 140737488355328 ∧ k + 8 + 1 + 1 + 1 + 1 + 1 + 1 + 1 ≤ 9223372036854775807, inI64 (7 : Int), inI64 (56 : Int), inI64 (0 : Int), (0 : Int) ≤ (0 : Int), 1 = 1, k + 8 + 1 + 1 + 1 + 1 + 1 + 1 + 1 = (m ++ List.replicate 8 (BitVec.ofNat 8 0) ++ (List.replicate 1 (BitVec.ofNat 8 0)).set 0 (BitVec.setWidth 8 ((BitVec.ofInt 64 n * BitVec.ofNat 64 8) >>> 56)) ++ (List.replicate 1 (BitVec.ofNat 8 0)).set 0 (BitVec.setWidth 8 ((BitVec.ofInt 64 n * BitVec.ofNat 64 8) >>> 48)) ++ (List.replicate 1 (BitVec.ofNat 8 0)).set 0 (BitVec.setWidth 8 ((BitVec.ofInt 64 n * BitVec.ofNat 64 8) >>> 40)) ++ (List.replicate 1 (BitVec.ofNat 8 0)).set 0 (BitVec.setWidth 8 ((BitVec.ofInt 64 n * BitVec.ofNat 64 8) >>> 32)) ++ (List.replicate 1 (BitVec.ofNat 8 0)).set 0 (BitVec.setWidth 8 ((BitVec.ofInt 64 n * BitVec.ofNat 64 8) >>> 24)) ++ (List.replicate 1 (BitVec.ofNat 8 0)).set 0 (BitVec.setWidth 8 ((BitVec.ofInt 64 n * BitVec.ofNat 64 8) >>> 16)) ++ (List.replicate 1 (BitVec.ofNat 8 0)).set 0 (BitVec.setWidth 8 ((BitVec.ofInt 64 n * BitVec.ofNat 64 8) >>> 8))).length, (k + 8 + 1 + 1 + 1 + 1 + 1 + 1 + 1 + 1) * 1 ≤ 140737488355328 ∧ k + 8 + 1 + 1 + 1 + 1 + 1 + 1 + 1 + 1 ≤ 9223372036854775807, inI64 (8 : Int), 0 + (k + 8 + 1 + 1 + 1 + 1 + 1 + 1 + 1 + 1) ≤ (m ++ List.replicate 8 (BitVec.ofNat 8 0) ++ (List.replicate 1 (BitVec.ofNat 8 0)).set 0 (BitVec.setWidth 8 ((BitVec.ofInt 64 n * BitVec.ofNat 64 8) >>> 56)) ++ (List.replicate 1 (BitVec.ofNat 8 0)).set 0 (BitVec.setWidth 8 ((BitVec.ofInt 64 n * BitVec.ofNat 64 8) >>> 48)) ++ (List.replicate 1 (BitVec.ofNat 8 0)).set 0 (BitVec.setWidth 8 ((BitVec.ofInt 64 n * BitVec.ofNat 64 8) >>> 40)) ++ (List.replicate 1 (BitVec.ofNat 8 0)).set 0 (BitVec.setWidth 8 ((BitVec.ofInt 64 n * BitVec.ofNat 64 8) >>> 32)) ++ (List.replicate 1 (BitVec.ofNat 8 0)).set 0 (BitVec.setWidth 8 ((BitVec.ofInt 64 n * BitVec.ofNat 64 8) >>> 24)) ++ (List.replicate 1 (BitVec.ofNat 8 0)).set 0 (BitVec.setWidth 8 ((BitVec.ofInt 64 n * BitVec.ofNat 64 8) >>> 16)) ++ (List.replicate 1 (BitVec.ofNat 8 0)).set 0 (BitVec.setWidth 8 ((BitVec.ofInt 64 n * BitVec.ofNat 64 8) >>> 8)) ++ (List.replicate 1 (BitVec.ofNat 8 0)).set 0 (BitVec.setWidth 8 ((BitVec.ofInt 64 n * BitVec.ofNat 64 8) >>> 0))).length]) := by kernel_rfl
def lenB (x : W6) : List (BitVec 8) := (List.range 8).map fun i => (x >>> (56 - 8 * i)).setWidth 8
def toldP (v : E8) : List (BitVec 8) := v.list.flatMap lenB
theorem runToldH (v : E8) : fnS Tryz.prog (lookG []) orc0 [] 10 93 [.val true [.n4 v.lo, .n4 v.hi], sc (.i64 64)] = some (sc (.d8 (toldP v)), [0 + 64 ≤ 64]) := by kernel_rfl
def spToldP : List AV → Option (AV × List Prop)
  | [.val true [.n4 x, .n4 y], .val false [.i64 64]] => some (sc (.d8 (toldP (E8.of x y))), [])
  | _ => none
theorem ctToldP : CtSOk Tryz.prog 93 (.fn spToldP) := FnS_of_fnS gs0 fol fun ds r cs h hc => by
  unfold spToldP at h
  split at h
  case h_2 => simp at h
  rename_i x y
  simp only [Option.some.injEq, Prod.mk.injEq] at h
  obtain ⟨rfl, rfl⟩ := h
  exact use_run (runToldH (E8.of x y)) rfl ⟨by omega, trivial⟩
/-- As many noughts as there must be. -/
def zN (k : Nat) : Nat := (240 - k % 128) % 128
def padZ (l : List (BitVec 8)) : List (BitVec 8) := l ++ List.replicate (zN l.length) 0
def padP (l : List (BitVec 8)) : List (BitVec 8) := padZ (l ++ [128#8]) ++ List.replicate 8 0#8 ++ lenB (BitVec.ofNat 64 l.length * 8#64)
theorem padZ_len (l : List (BitVec 8)) : (padZ l).length = l.length + zN l.length := by simp [padZ]
theorem padP_len (l : List (BitVec 8)) : (padP l).length % 128 = 0 := by
  simp only [padP, padZ_len, List.length_append, List.length_replicate, lenB, List.length_map, List.length_range, List.length_cons, List.length_nil, zN]
  omega
theorem padP_lt (l : List (BitVec 8)) : (padP l).length < l.length + 200 := by
  simp only [padP, padZ_len, List.length_append, List.length_replicate, lenB, List.length_map, List.length_range, List.length_cons, List.length_nil, zN]
  omega
theorem padZ_end (l : List (BitVec 8)) (h : l.length % 128 = 112) : padZ l = l := by
  have : zN l.length = 0 := by unfold zN; omega
  rw [padZ, this, List.replicate_zero, List.append_nil]
theorem padZ_step (l : List (BitVec 8)) (h : l.length % 128 ≠ 112) : padZ (l ++ [0#8]) = padZ l := by
  have : zN l.length = zN (l.length + 1) + 1 := by unfold zN; omega
  rw [padZ, padZ, List.length_append, List.length_cons, List.length_nil, this, List.append_assoc]
  congr 1
theorem tm128 (k : Nat) : ((k : Nat) : Int).tmod 128 = ((k % 128 : Nat) : Int) := (Int.ofNat_tmod k 128).symm
theorem p1Loop (n : Int) (l : List (BitVec 8)) (hl : l.length ≤ 1000000) : LoopTo Tryz.prog (bodyAt Tryz.prog 90 2) (p1Inv l l.length n) (.exit 0) (p1Inv (padZ l) (padZ l).length n) := by
  refine LoopTo.intro (P := Tryz.prog) (α := List (BitVec 8)) gs0 fol (fun m => p1Inv m m.length n) (fun m => m.length + zN m.length ≤ 1000200 ∧ padZ m = padZ l) (fun m => zN m.length) (by simp) ?_ l ⟨by unfold zN; omega, rfl⟩
  rintro m ⟨hm, he⟩
  by_cases h : m.length % 128 = 112
  · have r0 := p1Exit m m.length n
    rw [← he, padZ_end m h]
    refine .inr ⟨_, _, _, _, _, r0, ?_⟩
    clear r0
    rw [tm128, h]
    simp only [AllP, inI64]
    and_intros <;> first | exact True.intro | rfl | omega
  · have r0 := p1Round m m.length n
    have q : p1Inv (m ++ [0#8]) (m.length + 1) n = p1Inv (m ++ [0#8]) (m ++ [0#8]).length n := by rw [List.length_append]; rfl
    have r1 := r0.trans (congrArg (fun x => some (Ex.normal, x, _)) q)
    have hz : zN (m ++ [0#8]).length < zN m.length := by rw [List.length_append, List.length_cons, List.length_nil]; unfold zN; omega
    refine .inl ⟨_, _, _, _, _, m ++ [0#8], r1, ?_, ⟨?_, by rw [padZ_step m h, he]⟩, hz⟩
    · clear r0 r1 q
      have h2 : (!((m.length : Int)).tmod (128 : Int) == (112 : Int)) = true := by
        rw [tm128, Bool.not_eq_true', beq_eq_false_iff_ne]
        omega
      simp only [AllP, inI64]
      and_intros <;> first | exact True.intro | exact h2 | rfl | omega
    · rw [List.length_append, List.length_cons, List.length_nil] at hz ⊢
      unfold zN at hm hz ⊢
      omega
def spPad : List AV → Option (AV × List Prop)
  | [.val false [.d8 l], .val false [.i64 n], .val false [.i64 128]] => some (sc (.d8 (padP l)), [n = l.length, l.length ≤ 100000])
  | _ => none
theorem ctPad : CtSOk Tryz.prog 90 (.fn spPad) := FnS_of_fnS gs0 fol fun ds r cs h hc => by
  unfold spPad at h
  split at h
  case h_2 => simp at h
  rename_i l n
  simp only [Option.some.injEq, Prod.mk.injEq] at h
  obtain ⟨rfl, rfl⟩ := h
  obtain ⟨rfl, hl, _⟩ := hc
  have hm := padZ_len (l ++ [128#8])
  have hlo := p1Loop (l.length : Int) (l ++ [128#8]) (by simp; omega)
  have hz : zN (l ++ [128#8]).length < 128 := by unfold zN; omega
  rw [List.length_append, List.length_cons, List.length_nil] at hm hz
  obtain ⟨m, hM⟩ : ∃ m, padZ (l ++ [128#8]) = m := ⟨_, rfl⟩
  rw [hM] at hm hlo
  refine use_run (runPad l m m.length l.length) ?_ ?_
  · rw [padP, hM, cutL_eq rfl, List.drop_zero]
    refine congrArg (fun x => sc (IV.d8 x)) ((List.take_of_length_le (by simp)).trans ?_)
    simp only [List.append_assoc]
    rfl
  · have e0 : (0 + l.length + 1) = (l ++ [128#8]).length := by simp
    simp only [AllP]
    have hL : LoopTo Tryz.prog (bodyAt Tryz.prog 90 2) (p1Inv (l ++ [128#8]) (0 + l.length + 1) l.length) (.exit 0) (p1Inv m m.length l.length) := by rw [e0]; exact hlo
    clear hlo e0
    and_intros <;> first | exact True.intro | exact hL | with_reducible rfl | omega | (unfold inI64; omega) | (simp only [List.length_append, List.length_replicate, List.length_set] <;> omega)
end Go.Proofs.YtlgiaglbdifkpaaGreatDoor
/- SHA-512 of the program: its contract. Own work. -/
namespace Go.Proofs.YtlgiaglbdifkpaaGreatDoor
open Go.Ev Go.Sp Go.RowKit
set_option maxRecDepth 100000
def fst8 : E8 := ⟨0x6a09e667f3bcc908#64, 0xbb67ae8584caa73b#64, 0x3c6ef372fe94f82b#64, 0xa54ff53a5f1d36f1#64, 0x510e527fade682d1#64, 0x9b05688c2b3e6c1f#64, 0x1f83d9abfb41bd6b#64, 0x5be0cd19137e2179#64⟩
theorem runFst : fnS Tryz.prog (lookG []) (orcA []) [] 10 89 [] = some (.val true [.n4 fst8.lo, .n4 fst8.hi], []) := by kernel_rfl
def spFst : List AV → Option (AV × List Prop)
  | [] => some (.val true [.n4 fst8.lo, .n4 fst8.hi], [])
  | _ => none
theorem ctFst : CtSOk Tryz.prog 89 (.fn spFst) := FnS_of_fnS gs0 fol fun ds r cs h hc => by
  unfold spFst at h
  split at h
  case h_2 => simp at h
  simp only [Option.some.injEq, Prod.mk.injEq] at h
  obtain ⟨rfl, rfl⟩ := h
  exact use_run runFst rfl trivial
/-- A block's words by whatever function, bytes with their end, words told. -/
def spBlkG (B : E8 → List (BitVec 8) → E8) : List AV → Option (AV × List Prop)
  | [.val true [.n4 x, .n4 y], .val false [.d8 l], .val true k, .fn f [] []] => some (.val true [.n4 (B (E8.of x y) l).lo, .n4 (B (E8.of x y) l).hi], [l.length = 128, k = greatL, f = 92])
  | _ => none
def spPadG (p : List (BitVec 8) → List (BitVec 8)) : List AV → Option (AV × List Prop)
  | [.val false [.d8 l], .val false [.i64 n], .val false [.i64 128]] => some (sc (.d8 (p l)), [n = l.length, l.length ≤ 100000])
  | _ => none
def spToldG (t : E8 → List (BitVec 8)) : List AV → Option (AV × List Prop)
  | [.val true [.n4 x, .n4 y], .val false [.i64 64]] => some (sc (.d8 (t (E8.of x y))), [])
  | _ => none
def tblSh0 : List (FuncId × CtS) := [(89, .fn spFst)]
theorem okSh0 : TblOk Tryz.prog tblSh0 := ⟨⟨ctFst, by kernel_rfl⟩, trivial⟩
theorem gsSh0 : GSound Tryz.prog (upG (lookG tblSh0)) := GSound_of_tbl okSh0
def tblSh (B : E8 → List (BitVec 8) → E8) (p : List (BitVec 8) → List (BitVec 8)) (t : E8 → List (BitVec 8)) : List (FuncId × CtS) :=
  (91, .fn (spBlkG B)) :: (90, .fn (spPadG p)) :: (93, .fn (spToldG t)) :: tblSh0
theorem ctBlkP' : CtSOk Tryz.prog 91 (.fn (spBlkG blk8)) := ctBlkP
theorem ctPad' : CtSOk Tryz.prog 90 (.fn (spPadG padP)) := ctPad
theorem ctToldP' : CtSOk Tryz.prog 93 (.fn (spToldG toldP)) := ctToldP
theorem gsSh : GSound Tryz.prog (upG (lookG (tblSh blk8 padP toldP))) := GSound_of_tbl ⟨⟨ctBlkP', by kernel_rfl⟩, ⟨ctPad', by kernel_rfl⟩, ⟨ctToldP', by kernel_rfl⟩, okSh0⟩
def smTd : List Nat := [3, 4]
def smInv (v : E8) (q : List (BitVec 8)) (o k : Nat) : St := ⟨slotsOf 22 [(3, sc (.ptr 0 0)), (4, sc (.sl 1 o k))], [(0, ⟨true, [.n4 v.lo, .n4 v.hi]⟩), (1, ⟨true, [.v8 q.length q]⟩)], 16⟩
theorem smRound (B : E8 → List (BitVec 8) → E8) (p : List (BitVec 8) → List (BitVec 8)) (t : E8 → List (BitVec 8)) (v : E8) (q : List (BitVec 8)) (o k : Nat) : roundS Tryz.prog (lookG (tblSh B p t)) (orcP [(3, [(2, true)])] [(5, [4])]) [] 10 smTd (bodyAt Tryz.prog 44 3) (smInv v q o k) =
    some (Ex.normal, St.mk (slotsOf 22 [(3, sc (IV.ptr 0 0)), (4, sc (IV.sl 1 (o + 128) (k - 128)))]) [(0, Blk.mk true [IV.n4 (B (E8.of v.lo v.hi) (cutL q (o + 0) 128 q.length)).lo, IV.n4 (B (E8.of v.lo v.hi) (cutL q (o + 0) 128 q.length)).hi]), (1, Blk.mk true [IV.v8 q.length q])] 16, [decide ((0 : Int) < (↑k : Int)) = true, (0 : Int) ≤ (128 : Int), 0 ≤ 128, 128 ≤ k, o + 0 + 128 ≤ q.length, (cutL q (o + 0) 128 q.length).length = 128, [IV.i64 (64 : Int), IV.i64 (80 : Int), IV.vi 3 [(28 : Int), (34 : Int), (39 : Int)], IV.vi 3 [(14 : Int), (18 : Int), (41 : Int)], IV.vi 3 [(1 : Int), (8 : Int), (7 : Int)], IV.vi 3 [(19 : Int), (61 : Int), (6 : Int)]] = [IV.i64 (64 : Int), IV.i64 (80 : Int), IV.vi 3 [(28 : Int), (34 : Int), (39 : Int)], IV.vi 3 [(14 : Int), (18 : Int), (41 : Int)], IV.vi 3 [(1 : Int), (8 : Int), (7 : Int)], IV.vi 3 [(19 : Int), (61 : Int), (6 : Int)]], 92 = 92, (0 : Int) ≤ (128 : Int), 128 ≤ k, k ≤ k]) := by kernel_rfl
theorem smExit (B : E8 → List (BitVec 8) → E8) (p : List (BitVec 8) → List (BitVec 8)) (t : E8 → List (BitVec 8)) (v : E8) (q : List (BitVec 8)) (o k : Nat) : roundS Tryz.prog (lookG (tblSh B p t)) (orcA [(3, [(2, false)])]) [] 10 smTd (bodyAt Tryz.prog 44 3) (smInv v q o k) =
    some (Ex.exit 0, St.mk (slotsOf 22 [(3, sc (IV.ptr 0 0)), (4, sc (IV.sl 1 o k))]) [(0, Blk.mk true [IV.n4 v.lo, IV.n4 v.hi]), (1, Blk.mk true [IV.v8 q.length q])] 16, [decide ((0 : Int) < (↑k : Int)) = false]) := by kernel_rfl
theorem runSumH (B : E8 → List (BitVec 8) → E8) (p : List (BitVec 8) → List (BitVec 8)) (t : E8 → List (BitVec 8)) (v : E8) (l q : List (BitVec 8)) (o k : Nat) : fnS Tryz.prog (lookG (tblSh B p t)) (orcA []) [⟨3, smTd, .exit 0, smInv v q o k⟩] 10 44 [sc (.d8 l)] =
    some (sc (IV.d8 (cutL (t (E8.of v.lo v.hi)) 0 (t (E8.of v.lo v.hi)).length (t (E8.of v.lo v.hi)).length)), [l.length = l.length, (↑l.length : Int) = (↑l.length : Int), l.length ≤ 100000, LoopTo Tryz.prog (bodyAt Tryz.prog 44 3) (St.mk (slotsOf 22 [(3, sc (IV.ptr 0 0)), (4, sc (IV.sl 1 0 (p l).length))]) [(0, Blk.mk true [IV.n4 fst8.lo, IV.n4 fst8.hi]), (1, Blk.mk true [IV.v8 (p l).length (p l)])] 16) (Ex.exit 0) (St.mk (slotsOf 22 [(3, sc (IV.ptr 0 0)), (4, sc (IV.sl 1 o k))]) [(0, Blk.mk true [IV.n4 v.lo, IV.n4 v.hi]), (1, Blk.mk true [IV.v8 q.length q])] 16), 0 + (t (E8.of v.lo v.hi)).length ≤ (t (E8.of v.lo v.hi)).length]) := by kernel_rfl
/-- So many blocks. -/
def sumH (v : E8) (q : List (BitVec 8)) : Nat → E8
  | 0 => v
  | j + 1 => blk8 (sumH v q j) ((q.drop (128 * j)).take 128)
def shaL (l : List (BitVec 8)) : List (BitVec 8) := toldP (sumH fst8 (padP l) ((padP l).length / 128))
theorem E8_of (v : E8) : E8.of v.lo v.hi = v := rfl
theorem smLoop (q : List (BitVec 8)) (hq : q.length % 128 = 0) : LoopTo Tryz.prog (bodyAt Tryz.prog 44 3) (smInv fst8 q 0 q.length) (.exit 0) (smInv (sumH fst8 q (q.length / 128)) q q.length 0) := by
  have h0 := LoopTo.intro (P := Tryz.prog) (α := Nat) gsSh fol (c := bodyAt Tryz.prog 44 3) (e := .exit 0) (σ' := smInv (sumH fst8 q (q.length / 128)) q q.length 0) (fun j => smInv (sumH fst8 q j) q (128 * j) (q.length - 128 * j)) (fun j => j ≤ q.length / 128) (fun j => q.length / 128 - j) (by simp) ?_ 0 (by omega)
  · rw [Nat.mul_zero, Nat.sub_zero] at h0
    exact h0
  intro j hj
  by_cases he : j = q.length / 128
  · have e1 : 128 * j = q.length := by omega
    have r0 := smExit blk8 padP toldP (sumH fst8 q j) q q.length 0
    rw [e1, Nat.sub_self]
    rw [he] at r0 ⊢
    exact .inr ⟨_, _, _, _, _, r0, ⟨by decide, trivial⟩⟩
  · have r0 := smRound blk8 padP toldP (sumH fst8 q j) q (128 * j) (q.length - 128 * j)
    rw [E8_of, cutL_eq rfl, Nat.add_zero] at r0
    have q1 : smInv (blk8 (sumH fst8 q j) ((q.drop (128 * j)).take 128)) q (128 * j + 128) (q.length - 128 * j - 128) = smInv (sumH fst8 q (j + 1)) q (128 * (j + 1)) (q.length - 128 * (j + 1)) := by
      rw [sumH, show 128 * (j + 1) = 128 * j + 128 by omega, Nat.sub_sub]
    have r1 := r0.trans (congrArg (fun x => some (Ex.normal, x, _)) q1)
    refine .inl ⟨_, _, _, _, _, j + 1, r1, ?_, by omega, by omega⟩
    clear r0 r1 q1
    simp only [AllP]
    and_intros <;> first | exact True.intro | with_reducible rfl | omega | exact decide_eq_true (by omega) | (simp; omega)
def spSha : List AV → Option (AV × List Prop)
  | [.val false [.d8 l]] => some (sc (.d8 (shaL l)), [l.length ≤ 100000])
  | _ => none
theorem ctSha : CtSOk Tryz.prog 44 (.fn spSha) := FnS_of_fnS gsSh fol fun ds r cs h hc => by
  unfold spSha at h
  split at h
  case h_2 => simp at h
  rename_i l
  simp only [Option.some.injEq, Prod.mk.injEq] at h
  obtain ⟨rfl, rfl⟩ := h
  obtain ⟨hl, _⟩ := hc
  refine use_run (runSumH blk8 padP toldP (sumH fst8 (padP l) ((padP l).length / 128)) l (padP l) (padP l).length 0) ?_ ⟨rfl, rfl, hl, smLoop (padP l) (padP_len l), by omega, trivial⟩
  rw [E8_of, cutL_eq rfl, List.drop_zero, List.take_of_length_le (Nat.le_refl _)]
  rfl
end Go.Proofs.YtlgiaglbdifkpaaGreatDoor
/- Contracts of layer 4: numbers modulo the order. Own work. -/
namespace Go.Proofs.YtlgiaglbdifkpaaGreatDoor
open Go.Ev Go.Sp Go.RowKit
set_option maxRecDepth 100000

/-- The base point's order. -/
def Lo : Nat := 7237005577332262213973186563042994240857116359379907606001950938285454250989
def LoN : N4 := ⟨6346243789798364141#64, 1503914060200516822#64, 0#64, 1152921504606846976#64⟩
theorem LoN_val : val LoN = Lo := by decide
theorem Lo_pos : 0 < Lo := by decide
theorem Lo_lt : Lo < p256 := by decide
theorem LoN_ne : val LoN ≠ 0 := by decide
def tblSZ : List (FuncId × CtS) := [(81, .fn (sp2 addV)), (53, .fn (sp2 subV)), (83, .fn spMul), (116, .fn spMod), (46, .fn spFrom), (104, .fn spDbl), (84, .fn spBytes)]
theorem okSZ : TblOk Tryz.prog tblSZ := ⟨⟨ctAdd, by kernel_rfl⟩, ⟨ctSub, by kernel_rfl⟩, ⟨ctMul, by kernel_rfl⟩, ⟨ctMod, by kernel_rfl⟩, ⟨ctFrom, by kernel_rfl⟩, ⟨ctDbl, by kernel_rfl⟩, ⟨ctBytes, by kernel_rfl⟩, trivial⟩
theorem gsSZ : GSound Tryz.prog (upG (lookG tblSZ)) := GSound_of_tbl okSZ
def spOrd : List AV → Option (AV × List Prop)
  | [] => some (.val true [.n4 LoN], [])
  | _ => none
theorem runOrd : fnS Tryz.prog (lookG []) orc0 [] 10 54 [] = some (.val true [.n4 LoN], []) := by kernel_rfl
theorem ctOrd : CtSOk Tryz.prog 54 (.fn spOrd) := FnS_of_fnS gs0 fol fun ds r cs h hc => by
  unfold spOrd at h
  split at h
  case h_2 => simp at h
  simp only [Option.some.injEq, Prod.mk.injEq] at h
  obtain ⟨rfl, rfl⟩ := h
  exact use_run runOrd rfl trivial
def tblS1 : List (FuncId × CtS) :=
  (54, .fn spOrd) :: tblSZ
theorem gsS1 : GSound Tryz.prog (upG (lookG tblS1)) := GSound_of_tbl ⟨⟨ctOrd, by kernel_rfl⟩, okSZ⟩
theorem runSLeft (a b : N4) : fnS Tryz.prog (lookG tblS1) orc0 [] 10 82 [.val true [.n4 a, .n4 b]] =
    some (AV.val true [IV.n4 (modN a b LoN)], []) := by kernel_rfl
def spSLeft : List AV → Option (AV × List Prop)
  | [.val true [.n4 a, .n4 b]] => some (.val true [.n4 (ofN (wide a b % Lo))], [])
  | _ => none
theorem ctSLeft : CtSOk Tryz.prog 82 (.fn spSLeft) := FnS_of_fnS gsS1 fol fun ds r cs h hc => by
  unfold spSLeft at h
  split at h
  case h_2 => simp at h
  rename_i a b
  simp only [Option.some.injEq, Prod.mk.injEq] at h
  obtain ⟨rfl, rfl⟩ := h
  refine use_run (runSLeft a b) ?_ trivial
  rw [modN, if_neg LoN_ne, LoN_val]
def tblS2 : List (FuncId × CtS) :=
  (82, .fn spSLeft) :: tblS1
theorem gsS2 : GSound Tryz.prog (upG (lookG tblS2)) := GSound_of_tbl ⟨⟨ctSLeft, by kernel_rfl⟩, ⟨ctOrd, by kernel_rfl⟩, okSZ⟩
theorem runSRed (a : N4) : fnS Tryz.prog (lookG tblS2) orc0 [] 10 38 [.val true [.n4 a]] =
    some (AV.val true [IV.n4 (ofN (wide a (N4.mk (BitVec.ofNat 64 0) (BitVec.ofNat 64 0) (BitVec.ofNat 64 0) (BitVec.ofNat 64 0)) % 7237005577332262213973186563042994240857116359379907606001950938285454250989))], []) := by kernel_rfl
def redN (a : N4) : N4 := ofN (val a % Lo)
def spRedZ : List AV → Option (AV × List Prop)
  | [.val true [.n4 a]] => some (.val true [.n4 (redN a)], [])
  | _ => none
theorem runSOf (b : List (BitVec 8)) : fnS Tryz.prog (lookG tblS2) (orcA [(2, [(1, false)])]) [] 10 69 [sc (.d8 b)] =
    some (AV.tup [(true, [IV.n4 (ofN (wide (dblV b).fst (dblV b).2.fst % 7237005577332262213973186563042994240857116359379907606001950938285454250989))]), (false, [IV.i64 (0 : Int)])], [b.length = b.length, (!(dblV b).2.snd == (0 : Int)) = false]) := by kernel_rfl
theorem runSOf1 (b : List (BitVec 8)) : fnS Tryz.prog (lookG tblS2) (orcA [(2, [(1, true)])]) [] 10 69 [sc (.d8 b)] =
    some (AV.tup [(true, [IV.n4 (N4.mk (BitVec.ofNat 64 0) (BitVec.ofNat 64 0) (BitVec.ofNat 64 0) (BitVec.ofNat 64 0))]), (false, [IV.i64 (dblV b).2.snd])], [b.length = b.length, (!(dblV b).2.snd == (0 : Int)) = true]) := by kernel_rfl
theorem runSDec (b : List (BitVec 8)) : fnS Tryz.prog (lookG tblS2) (orcA [(1, [(2, false)]), (5, [(1, false)])]) [] 10 18 [sc (.d8 b)] =
    some (AV.tup [(true, [IV.n4 (fromV b).fst]), (false, [IV.i64 (0 : Int)])], [(!(↑b.length : Int) == (32 : Int)) = false, b.length = b.length, ((if val (fromV b).fst < 7237005577332262213973186563042994240857116359379907606001950938285454250989 then BitVec.ofNat 64 1 else BitVec.ofNat 64 0) == BitVec.ofNat 64 0) = false]) := by kernel_rfl
theorem runSDec1 (b : List (BitVec 8)) : fnS Tryz.prog (lookG tblS2) (orcA [(1, [(2, true)])]) [] 10 18 [sc (.d8 b)] =
    some (AV.tup [(true, [IV.n4 (N4.mk (BitVec.ofNat 64 0) (BitVec.ofNat 64 0) (BitVec.ofNat 64 0) (BitVec.ofNat 64 0))]), (false, [IV.i64 (1 : Int)])], [(!(↑b.length : Int) == (32 : Int)) = true]) := by kernel_rfl
theorem runSDec6 (b : List (BitVec 8)) : fnS Tryz.prog (lookG tblS2) (orcA [(1, [(2, false)]), (5, [(1, true)])]) [] 10 18 [sc (.d8 b)] =
    some (AV.tup [(true, [IV.n4 (N4.mk (BitVec.ofNat 64 0) (BitVec.ofNat 64 0) (BitVec.ofNat 64 0) (BitVec.ofNat 64 0))]), (false, [IV.i64 (6 : Int)])], [(!(↑b.length : Int) == (32 : Int)) = false, b.length = b.length, ((if val (fromV b).fst < 7237005577332262213973186563042994240857116359379907606001950938285454250989 then BitVec.ofNat 64 1 else BitVec.ofNat 64 0) == BitVec.ofNat 64 0) = true]) := by kernel_rfl
theorem wide_zero (a : N4) : wide a ⟨0#64, 0#64, 0#64, 0#64⟩ = val a := by
  have : val ⟨0#64, 0#64, 0#64, 0#64⟩ = 0 := rfl
  simp [wide, this]
theorem redV (n : Nat) : val (ofN (n % Lo)) = n % Lo := by
  rw [val_ofN]
  exact Nat.mod_eq_of_lt (Nat.lt_trans (Nat.mod_lt _ Lo_pos) Lo_lt)
theorem ctRedZ : CtSOk Tryz.prog 38 (.fn spRedZ) := FnS_of_fnS gsS2 fol fun ds r cs h hc => by
  unfold spRedZ at h
  split at h
  case h_2 => simp at h
  rename_i a
  simp only [Option.some.injEq, Prod.mk.injEq] at h
  obtain ⟨rfl, rfl⟩ := h
  refine use_run (runSRed a) ?_ trivial
  rw [wide_zero]
  rfl
def sofV (b : List (BitVec 8)) : N4 × Int := if b.length ≤ 64 then (ofN (bv b % Lo), 0) else (⟨0#64, 0#64, 0#64, 0#64⟩, 2)
def spSOf : List AV → Option (AV × List Prop)
  | [.val false [.d8 b]] => some (.tup [(true, [.n4 (sofV b).1]), (false, [.i64 (sofV b).2])], [])
  | _ => none
theorem dbl_wide (b : List (BitVec 8)) (hb : b.length ≤ 64) : wide (ofN (bv b)) (ofN (bv b / p256)) = bv b := by
  have h1 := bv_lt b
  have h2 : (256 : Nat) ^ b.length ≤ 256 ^ 64 := Nat.pow_le_pow_right (by omega) hb
  have h3 : (256 : Nat) ^ 64 = p256 * p256 := rfl
  have hpos : 0 < p256 := by decide
  have h4 : bv b / p256 < p256 := by rw [Nat.div_lt_iff_lt_mul hpos]; omega
  rw [wide, val_ofN, val_ofN, Nat.mod_eq_of_lt h4]
  have := Nat.mod_add_div (bv b) p256
  exact this
theorem ctSOf : CtSOk Tryz.prog 69 (.fn spSOf) := FnS_of_fnS gsS2 fol fun ds r cs h hc => by
  unfold spSOf at h
  split at h
  case h_2 => simp at h
  rename_i b
  simp only [Option.some.injEq, Prod.mk.injEq] at h
  obtain ⟨rfl, rfl⟩ := h
  by_cases hb : b.length ≤ 64
  · have hd : dblV b = (ofN (bv b), ofN (bv b / p256), 0) := by rw [dblV, if_pos hb]
    refine use_run (runSOf b) ?_ ⟨rfl, by rw [hd]; rfl, trivial⟩
    rw [sofV, if_pos hb, hd, dbl_wide b hb]
    rfl
  · have hd : dblV b = (⟨0#64, 0#64, 0#64, 0#64⟩, ⟨0#64, 0#64, 0#64, 0#64⟩, 2) := by rw [dblV, if_neg hb]
    refine use_run (runSOf1 b) ?_ ⟨rfl, by rw [hd]; rfl, trivial⟩
    rw [sofV, if_neg hb, hd]
def sdecV (b : List (BitVec 8)) : N4 × Int := if b.length = 32 then (if bv b < Lo then (ofN (bv b), 0) else (⟨0#64, 0#64, 0#64, 0#64⟩, 6)) else (⟨0#64, 0#64, 0#64, 0#64⟩, 1)
def spSDec : List AV → Option (AV × List Prop)
  | [.val false [.d8 b]] => some (.tup [(true, [.n4 (sdecV b).1]), (false, [.i64 (sdecV b).2])], [])
  | _ => none
theorem bv32 (b : List (BitVec 8)) (h : b.length = 32) : val (ofN (bv b)) = bv b := by
  rw [val_ofN]
  have := bv_lt b
  rw [h] at this
  exact Nat.mod_eq_of_lt this
theorem ctSDec : CtSOk Tryz.prog 18 (.fn spSDec) := FnS_of_fnS gsS2 fol fun ds r cs h hc => by
  unfold spSDec at h
  split at h
  case h_2 => simp at h
  rename_i b
  simp only [Option.some.injEq, Prod.mk.injEq] at h
  obtain ⟨rfl, rfl⟩ := h
  by_cases hb : b.length = 32
  · have hf : fromV b = (ofN (bv b), 0) := by rw [fromV, if_pos (by omega)]
    have hl : (!((b.length : Int) == (32 : Int))) = false := by rw [hb]; rfl
    by_cases hlt : bv b < Lo
    · refine use_run (runSDec b) ?_ ⟨hl, rfl, ?_, trivial⟩
      · rw [sdecV, if_pos hb, if_pos hlt, hf]
      · rw [hf, bv32 b hb]
        show ((if bv b < Lo then BitVec.ofNat 64 1 else BitVec.ofNat 64 0) == BitVec.ofNat 64 0) = false
        rw [if_pos hlt]; rfl
    · refine use_run (runSDec6 b) ?_ ⟨hl, rfl, ?_, trivial⟩
      · rw [sdecV, if_pos hb, if_neg hlt]
      · rw [hf, bv32 b hb]
        show ((if bv b < Lo then BitVec.ofNat 64 1 else BitVec.ofNat 64 0) == BitVec.ofNat 64 0) = true
        rw [if_neg hlt]; rfl
  · refine use_run (runSDec1 b) ?_ ⟨by simp; omega, trivial⟩
    rw [sdecV, if_neg hb]
/-! ### Methods -/
def tblS3 : List (FuncId × CtS) := [(38, .fn spRedZ), (82, .fn spSLeft), (54, .fn spOrd), (81, .fn (sp2 addV)), (53, .fn (sp2 subV)), (83, .fn spMul), (84, .fn spBytes)]
theorem okS3 : TblOk Tryz.prog tblS3 := ⟨⟨ctRedZ, by kernel_rfl⟩, ⟨ctSLeft, by kernel_rfl⟩, ⟨ctOrd, by kernel_rfl⟩, ⟨ctAdd, by kernel_rfl⟩, ⟨ctSub, by kernel_rfl⟩, ⟨ctMul, by kernel_rfl⟩, ⟨ctBytes, by kernel_rfl⟩, trivial⟩
theorem gsS3 : GSound Tryz.prog (upG (lookG tblS3)) := GSound_of_tbl okS3
theorem runSNum (a : N4) : fnS Tryz.prog (lookG tblS3) orc0 [] 10 23 [.val true [.n4 a]] =
    some (AV.val true [IV.n4 (redN a)], []) := by kernel_rfl
theorem ctSNum : CtSOk Tryz.prog 23 (.fn spRedZ) := FnS_of_fnS gsS3 fol fun ds r cs h hc => by
  unfold spRedZ at h
  split at h
  case h_2 => simp at h
  rename_i a
  simp only [Option.some.injEq, Prod.mk.injEq] at h
  obtain ⟨rfl, rfl⟩ := h
  exact use_run (runSNum a) rfl trivial
def tblS4 : List (FuncId × CtS) :=
  (23, .fn spRedZ) :: tblS3
theorem gsS4 : GSound Tryz.prog (upG (lookG tblS4)) := GSound_of_tbl ⟨⟨ctSNum, by kernel_rfl⟩, okS3⟩
theorem runSBytes (a : N4) : fnS Tryz.prog (lookG tblS4) orc0 [] 10 39 [.val true [.n4 a]] =
    some (sc (IV.d8 (cutL (bl (val (redN a)) 32) 0 (bl (val (redN a)) 32).length (bl (val (redN a)) 32).length)), [0 + (bl (val (redN a)) 32).length ≤ (bl (val (redN a)) 32).length]) := by kernel_rfl
theorem runSAdd (a b : N4) : fnS Tryz.prog (lookG tblS4) orc0 [] 10 36 [.val true [.n4 a], .val true [.n4 b]] =
    some (AV.val true [IV.n4 (redN (ofN (val (redN a) + val (redN b))))], []) := by kernel_rfl
theorem runSMul (a b : N4) : fnS Tryz.prog (lookG tblS4) orc0 [] 10 37 [.val true [.n4 a], .val true [.n4 b]] =
    some (AV.val true [IV.n4 (ofN (wide (ofN (val (redN a) * val (redN b))) (ofN (val (redN a) * val (redN b) / 115792089237316195423570985008687907853269984665640564039457584007913129639936)) % 7237005577332262213973186563042994240857116359379907606001950938285454250989))], []) := by kernel_rfl
theorem redV2 (a : N4) : val (redN a) = val a % Lo := redV _
theorem redN_ofN {n : Nat} (h : n < p256) : redN (ofN n) = ofN (n % Lo) := by
  unfold redN
  rw [val_ofN, Nat.mod_eq_of_lt h]
def addS (a b : N4) : N4 := ofN ((val a % Lo + val b % Lo) % Lo)
def mulS (a b : N4) : N4 := ofN ((val a % Lo * (val b % Lo)) % Lo)
def spSBytes : List AV → Option (AV × List Prop)
  | [.val true [.n4 a]] => some (sc (.d8 (bl (val a % Lo) 32)), [])
  | _ => none
theorem ctSBytes : CtSOk Tryz.prog 39 (.fn spSBytes) := FnS_of_fnS gsS4 fol fun ds r cs h hc => by
  unfold spSBytes at h
  split at h
  case h_2 => simp at h
  rename_i a
  simp only [Option.some.injEq, Prod.mk.injEq] at h
  obtain ⟨rfl, rfl⟩ := h
  refine use_run (runSBytes a) ?_ ⟨by omega, trivial⟩
  rw [cutL_all, redV2]
def spSBin (f : N4 → N4 → N4) : List AV → Option (AV × List Prop)
  | [.val true [.n4 a], .val true [.n4 b]] => some (.val true [.n4 (f a b)], [])
  | _ => none
theorem mod_Lo (n : Nat) : n % Lo < Lo := Nat.mod_lt _ Lo_pos
theorem ctSAdd : CtSOk Tryz.prog 36 (.fn (spSBin addS)) := FnS_of_fnS gsS4 fol fun ds r cs h hc => by
  unfold spSBin at h
  split at h
  case h_2 => simp at h
  rename_i a b
  simp only [Option.some.injEq, Prod.mk.injEq] at h
  obtain ⟨rfl, rfl⟩ := h
  refine use_run (runSAdd a b) ?_ trivial
  have ha := mod_Lo (val a)
  have hb := mod_Lo (val b)
  have h2 : 2 * Lo < p256 := by decide
  rw [redN_ofN (by rw [redV2, redV2]; omega), redV2, redV2]
  rfl
theorem ctSMul : CtSOk Tryz.prog 37 (.fn (spSBin mulS)) := FnS_of_fnS gsS4 fol fun ds r cs h hc => by
  unfold spSBin at h
  split at h
  case h_2 => simp at h
  rename_i a b
  simp only [Option.some.injEq, Prod.mk.injEq] at h
  obtain ⟨rfl, rfl⟩ := h
  refine use_run (runSMul a b) ?_ trivial
  have ha := mod_Lo (val a)
  have hb := mod_Lo (val b)
  have hlt : val (redN a) * val (redN b) < p256 * p256 := Nat.mul_lt_mul'' (val_lt _) (val_lt _)
  have hpos : 0 < p256 := by decide
  have hw : wide (ofN (val (redN a) * val (redN b))) (ofN (val (redN a) * val (redN b) / p256)) = val (redN a) * val (redN b) := by
    have h4 : val (redN a) * val (redN b) / p256 < p256 := by rw [Nat.div_lt_iff_lt_mul hpos]; exact hlt
    rw [wide, val_ofN, val_ofN, Nat.mod_eq_of_lt h4]
    exact Nat.mod_add_div _ p256
  show AV.val true [IV.n4 (ofN (wide (ofN (val (redN a) * val (redN b))) (ofN (val (redN a) * val (redN b) / p256)) % Lo))] = _
  rw [hw, redV2, redV2]
  rfl
def spSUn (f : N4 → N4) : List AV → Option (AV × List Prop)
  | [.val true [.n4 a]] => some (.val true [.n4 (f a)], [])
  | _ => none
end Go.Proofs.YtlgiaglbdifkpaaGreatDoor
/- Signatures of the program: its functions by contract. Own work. -/
namespace Go.Proofs.YtlgiaglbdifkpaaGreatDoor
open Go.Ev Go.Sp Go.RowKit
set_option maxRecDepth 100000
theorem runJo2 (a b : BL) : fnS Tryz.prog (lookG []) (orcA []) [] 20 35 [sc (.ds8 [a, b])] =
    some (sc (IV.d8 (cutL (a ++ b) 0 (0 + List.length a + List.length b) (a ++ b).length)), [(0 : Int) ≤ (0 : Int), 0 < [a, b].length, List.length a = List.length a, 0 = 0, (0 + List.length a) * 1 ≤ 140737488355328 ∧ 0 + List.length a ≤ 9223372036854775807, inI64 (1 : Int), (0 : Int) ≤ (1 : Int), 1 < [a, b].length, List.length b = List.length b, 0 + List.length a = List.length a, (0 + List.length a + List.length b) * 1 ≤ 140737488355328 ∧ 0 + List.length a + List.length b ≤ 9223372036854775807, inI64 (2 : Int), 0 + (0 + List.length a + List.length b) ≤ (a ++ b).length]) := by kernel_rfl
theorem runJo3 (a b c : BL) : fnS Tryz.prog (lookG []) (orcA []) [] 20 35 [sc (.ds8 [a, b, c])] =
    some (sc (IV.d8 (cutL (a ++ b ++ c) 0 (0 + List.length a + List.length b + List.length c) (a ++ b ++ c).length)), [(0 : Int) ≤ (0 : Int), 0 < [a, b, c].length, List.length a = List.length a, 0 = 0, (0 + List.length a) * 1 ≤ 140737488355328 ∧ 0 + List.length a ≤ 9223372036854775807, inI64 (1 : Int), (0 : Int) ≤ (1 : Int), 1 < [a, b, c].length, List.length b = List.length b, 0 + List.length a = List.length a, (0 + List.length a + List.length b) * 1 ≤ 140737488355328 ∧ 0 + List.length a + List.length b ≤ 9223372036854775807, inI64 (2 : Int), (0 : Int) ≤ (2 : Int), 2 < [a, b, c].length, List.length c = List.length c, 0 + List.length a + List.length b = (a ++ b).length, (0 + List.length a + List.length b + List.length c) * 1 ≤ 140737488355328 ∧ 0 + List.length a + List.length b + List.length c ≤ 9223372036854775807, inI64 (3 : Int), 0 + (0 + List.length a + List.length b + List.length c) ≤ (a ++ b ++ c).length]) := by kernel_rfl
def spJo : List AV → Option (AV × List Prop)
  | [.val false [.ds8 [a, b]]] => some (sc (.d8 (a ++ b)), [a.length + b.length ≤ 100000])
  | [.val false [.ds8 [a, b, c]]] => some (sc (.d8 (a ++ b ++ c)), [a.length + b.length + c.length ≤ 100000])
  | _ => none
theorem ctJo : CtSOk Tryz.prog 35 (.fn spJo) := FnS_of_fnS gs0 fol fun ds r cs h hc => by
  unfold spJo at h
  split at h
  case h_3 => simp at h
  · rename_i a b
    simp only [Option.some.injEq, Prod.mk.injEq] at h
    obtain ⟨rfl, rfl⟩ := h
    have hl := hc.1
    refine use_run (runJo2 a b) (by rw [show 0 + a.length + b.length = (a ++ b).length by rw [List.length_append]; omega, cutL_all]) ?_
    simp only [AllP, inI64, List.length_append, List.length_cons, List.length_nil]
    and_intros <;> first | exact True.intro | with_reducible rfl | omega
  · rename_i a b c
    simp only [Option.some.injEq, Prod.mk.injEq] at h
    obtain ⟨rfl, rfl⟩ := h
    have hl := hc.1
    refine use_run (runJo3 a b c) (by rw [show 0 + a.length + b.length + c.length = (a ++ b ++ c).length by simp only [List.length_append]; omega, cutL_all]) ?_
    simp only [AllP, inI64, List.length_append, List.length_cons, List.length_nil]
    and_intros <;> first | exact True.intro | with_reducible rfl | omega
def spShaG (S : BL → BL) : List AV → Option (AV × List Prop)
  | [.val false [.d8 l]] => some (sc (.d8 (S l)), [l.length ≤ 100000])
  | _ => none
def tblSg0 : List (FuncId × CtS) := [(35, .fn spJo), (46, .fn spFrom), (69, .fn spSOf), (45, .fn spClamp)]
theorem okSg0 : TblOk Tryz.prog tblSg0 := ⟨⟨ctJo, by kernel_rfl⟩, ⟨ctFrom, by kernel_rfl⟩, ⟨ctSOf, by kernel_rfl⟩, ⟨ctClamp, by kernel_rfl⟩, trivial⟩
theorem gsSg0 : GSound Tryz.prog (upG (lookG tblSg0)) := GSound_of_tbl okSg0
def tblSg (S : BL → BL) : List (FuncId × CtS) :=
  (44, .fn (spShaG S)) :: tblSg0
theorem ctShaP : CtSOk Tryz.prog 44 (.fn (spShaG shaL)) := ctSha
theorem gsSg : GSound Tryz.prog (upG (lookG (tblSg shaL))) := GSound_of_tbl ⟨⟨ctShaP, by kernel_rfl⟩, okSg0⟩
theorem runSec (S : BL → BL) (l : BL) : fnS Tryz.prog (lookG (tblSg S)) (orcP [(1, [(2, false)])] [(4, [2])]) [] 20 14 [sc (.d8 l)] =
    some (AV.tup [(true, [IV.n4 (fromV (clampV (cutL (S l) 0 32 (List.length (S l)))).fst).fst]), (false, [IV.r8 (cutL (S l) 32 (List.length (S l) - 32) (List.length (S l)))]), (false, [IV.i64 (0 : Int)])], [(!(↑(List.length l) : Int) == (32 : Int)) = false, List.length l = List.length l, List.length l ≤ 100000, (0 : Int) ≤ (32 : Int), 0 ≤ 32, 32 ≤ List.length (S l), 32 ≤ List.length (S l), List.length (clampV (cutL (S l) 0 32 (List.length (S l)))).fst = List.length (clampV (cutL (S l) 0 32 (List.length (S l)))).fst, (0 : Int) ≤ (32 : Int), 32 ≤ List.length (S l), List.length (S l) ≤ List.length (S l), 32 + (List.length (S l) - 32) ≤ List.length (S l)]) := by kernel_rfl
theorem runSec1 (S : BL → BL) (l : BL) : fnS Tryz.prog (lookG (tblSg S)) (orcP [(1, [(2, true)])] [(4, [2])]) [] 20 14 [sc (.d8 l)] =
    some (AV.tup [(true, [IV.n4 (N4.mk (BitVec.ofNat 64 0) (BitVec.ofNat 64 0) (BitVec.ofNat 64 0) (BitVec.ofNat 64 0))]), (false, [IV.d8 (cutL [] 0 0 0)]), (false, [IV.i64 (1 : Int)])], [(!(↑(List.length l) : Int) == (32 : Int)) = true, 0 ≤ 0]) := by kernel_rfl
theorem runDig2 (S : BL → BL) (a b : BL) : fnS Tryz.prog (lookG (tblSg S)) (orcA []) [] 20 25 [sc (.ds8 [a, b])] =
    some (AV.val true [IV.n4 (sofV (S (a ++ b))).fst], [List.length a = List.length a, List.length b = List.length b, List.length a + List.length b ≤ 100000, (a ++ b).length = (a ++ b).length, (a ++ b).length ≤ 100000, List.length (S (a ++ b)) = List.length (S (a ++ b))]) := by kernel_rfl
theorem runDig3 (S : BL → BL) (a b c : BL) : fnS Tryz.prog (lookG (tblSg S)) (orcA []) [] 20 25 [sc (.ds8 [a, b, c])] =
    some (AV.val true [IV.n4 (sofV (S (a ++ b ++ c))).fst], [List.length a = List.length a, List.length b = List.length b, List.length c = List.length c, List.length a + List.length b + List.length c ≤ 100000, (a ++ b ++ c).length = (a ++ b ++ c).length, (a ++ b ++ c).length ≤ 100000, List.length (S (a ++ b ++ c)) = List.length (S (a ++ b ++ c))]) := by kernel_rfl
def tblSp0 : List (FuncId × CtS) := [(24, .fn spCBase)]
theorem okSp0 : TblOk Tryz.prog tblSp0 := ⟨⟨ctCBase, by kernel_rfl⟩, trivial⟩
theorem gsSp0 : GSound Tryz.prog (upG (lookG tblSp0)) := GSound_of_tbl okSp0
def tblSp (M : N4 → N4 → N4 → PR) (E : N4 → N4 → BL × Int) : List (FuncId × CtS) :=
  (47, .fn (spMulCG M)) :: (48, .fn (spEncCG E)) :: tblSp0
theorem gsSp : GSound Tryz.prog (upG (lookG (tblSp multR encR))) := GSound_of_tbl ⟨⟨ctMulC, by kernel_rfl⟩, ⟨ctEncC, by kernel_rfl⟩, okSp0⟩
theorem runPtS (M : N4 → N4 → N4 → PR) (E : N4 → N4 → BL × Int) (n : N4) : fnS Tryz.prog (lookG (tblSp M E)) (orcA []) [] 20 15 [.val true [.n4 n]] =
    some (sc (IV.d8 (cutL (E (M n (ofN bxN) (ofN byN)).x (M n (ofN bxN) (ofN byN)).y).fst 0 (List.length (E (M n (ofN bxN) (ofN byN)).x (M n (ofN bxN) (ofN byN)).y).fst) (List.length (E (M n (ofN bxN) (ofN byN)).x (M n (ofN bxN) (ofN byN)).y).fst))), [0 + List.length (E (M n (ofN bxN) (ofN byN)).x (M n (ofN bxN) (ofN byN)).y).fst ≤ List.length (E (M n (ofN bxN) (ofN byN)).x (M n (ofN bxN) (ofN byN)).y).fst]) := by kernel_rfl
def secN (l : BL) : N4 := (fromV (clampV ((shaL l).take 32)).1).1
def secX (l : BL) : BL := (shaL l).drop 32
def spSecT (N : BL → N4) (X : BL → BL) : List AV → Option (AV × List Prop)
  | [.val false [.d8 l]] => some (.tup [(true, [.n4 (N l)]), (false, [.r8 (X l)]), (false, [.i64 0])], [l.length = 32])
  | _ => none
def spSecF : List AV → Option (AV × List Prop)
  | [.val false [.d8 l]] => some (.tup [(true, [.n4 ⟨0#64, 0#64, 0#64, 0#64⟩]), (false, [.d8 []]), (false, [.i64 1])], [l.length ≠ 32])
  | _ => none
theorem shaL_len (l : BL) : (shaL l).length = 64 := by
  rw [shaL, toldP]
  simp [E8.list, lenB]
theorem toNat32 : Int.toNat (32 : Int) = 32 := rfl
theorem ctSecT : CtSOk Tryz.prog 14 (.fn (spSecT secN secX)) := FnS_of_fnS gsSg fol fun ds r cs h hc => by
  unfold spSecT at h
  split at h
  case h_2 => simp at h
  rename_i l
  simp only [Option.some.injEq, Prod.mk.injEq] at h
  obtain ⟨rfl, rfl⟩ := h
  have hs := shaL_len l
  have h : l.length = 32 := hc.1
  have r0 := runSec shaL l
  have e1 : cutL (shaL l) 0 32 (shaL l).length = (shaL l).take 32 := by rw [cutL_eq rfl, List.drop_zero]
  have e2 : cutL (shaL l) 32 ((shaL l).length - 32) (shaL l).length = (shaL l).drop 32 := by rw [cutL_eq rfl, List.take_of_length_le (by rw [List.length_drop]; omega)]
  rw [e1, e2] at r0
  refine use_run r0 ?_ ?_
  · clear r0
    unfold secN secX
    with_reducible rfl
  · clear r0
    simp only [AllP]
    and_intros <;> first | exact True.intro | exact lcTk h | with_reducible rfl | omega
theorem ctSecF : CtSOk Tryz.prog 14 (.fn spSecF) := FnS_of_fnS gsSg fol fun ds r cs h hc => by
  unfold spSecF at h
  split at h
  case h_2 => simp at h
  rename_i l
  simp only [Option.some.injEq, Prod.mk.injEq] at h
  obtain ⟨rfl, rfl⟩ := h
  have h : l.length ≠ 32 := hc.1
  exact use_run (runSec1 shaL l) rfl ⟨lcFk h, by omega, trivial⟩
def digN (b : BL) : N4 := (sofV (shaL b)).1
def spDigG (D : BL → N4) : List AV → Option (AV × List Prop)
  | [.val false [.ds8 [a, b]]] => some (.val true [.n4 (D (a ++ b))], [a.length + b.length ≤ 100000])
  | [.val false [.ds8 [a, b, c]]] => some (.val true [.n4 (D (a ++ b ++ c))], [a.length + b.length + c.length ≤ 100000])
  | _ => none
theorem ctDig : CtSOk Tryz.prog 25 (.fn (spDigG digN)) := FnS_of_fnS gsSg fol fun ds r cs h hc => by
  unfold spDigG at h
  split at h
  case h_3 => simp at h
  · rename_i a b
    simp only [Option.some.injEq, Prod.mk.injEq] at h
    obtain ⟨rfl, rfl⟩ := h
    have hl := hc.1
    refine use_run (runDig2 shaL a b) rfl ?_
    simp only [AllP, List.length_append]
    and_intros <;> first | exact True.intro | with_reducible rfl | omega
  · rename_i a b c
    simp only [Option.some.injEq, Prod.mk.injEq] at h
    obtain ⟨rfl, rfl⟩ := h
    have hl := hc.1
    refine use_run (runDig3 shaL a b c) rfl ?_
    simp only [AllP, List.length_append]
    and_intros <;> first | exact True.intro | with_reducible rfl | omega
def ptB (n : N4) : BL := (encR (multR n (ofN bxN) (ofN byN)).x (multR n (ofN bxN) (ofN byN)).y).1
def spPtG (p : N4 → BL) : List AV → Option (AV × List Prop)
  | [.val true [.n4 n]] => some (sc (.d8 (p n)), [])
  | _ => none
theorem ctPtS : CtSOk Tryz.prog 15 (.fn (spPtG ptB)) := FnS_of_fnS gsSp fol fun ds r cs h hc => by
  unfold spPtG at h
  split at h
  case h_2 => simp at h
  rename_i n
  simp only [Option.some.injEq, Prod.mk.injEq] at h
  obtain ⟨rfl, rfl⟩ := h
  exact use_run (runPtS multR encR n) (by rw [cutL_eq rfl, List.drop_zero, List.take_length, ptB]) ⟨by omega, trivial⟩
def spSB8 (B : N4 → BL) : List AV → Option (AV × List Prop)
  | [.val true [.n4 a]] => some (sc (.d8 (B a)), [])
  | _ => none
def spSDG (F : BL → N4 × Int) : List AV → Option (AV × List Prop)
  | [.val false [.d8 b]] => some (.tup [(true, [.n4 (F b).1]), (false, [.i64 (F b).2])], [])
  | _ => none
theorem ctRedU : CtSOk Tryz.prog 38 (.fn (spSUn redN)) := ctRedZ
theorem ctNumU : CtSOk Tryz.prog 23 (.fn (spSUn redN)) := ctSNum
theorem ctDecU : CtSOk Tryz.prog 18 (.fn (spSDG sdecV)) := ctSDec
def tblPb0 : List (FuncId × CtS) := [(35, .fn spJo), (24, .fn spCBase)]
theorem okPb0 : TblOk Tryz.prog tblPb0 := ⟨⟨ctJo, by kernel_rfl⟩, ⟨ctCBase, by kernel_rfl⟩, trivial⟩
theorem gsPb0 : GSound Tryz.prog (upG (lookG tblPb0)) := GSound_of_tbl okPb0
def tblPb (N : BL → N4) (X : BL → BL) (p : N4 → BL) (D : BL → N4) (A M : N4 → N4 → N4) (R : N4 → N4) (B : N4 → BL) (Nu : N4 → N4) : List (FuncId × CtS) :=
  (14, .fn (spSecT N X)) :: (15, .fn (spPtG p)) :: (25, .fn (spDigG D)) :: (36, .fn (spSBin A)) :: (37, .fn (spSBin M)) :: (38, .fn (spSUn R)) :: (23, .fn (spSUn Nu)) :: (39, .fn (spSB8 B)) :: tblPb0
def tblVf (D : BL → N4) (Nu : N4 → N4) (C : BL → PR) (F : BL → N4 × Int) (Sm : N4 → N4 → Bool) (Ng : N4 → N4 → PR) (Bo : N4 → N4 → N4 → N4 → N4 → N4 → PR) : List (FuncId × CtS) :=
  (25, .fn (spDigG D)) :: (23, .fn (spSUn Nu)) :: (19, .fn (spDecCG C)) :: (18, .fn (spSDG F)) :: (20, .fn (spSmG Sm)) :: (21, .fn (spNegCG Ng)) :: (22, .fn (spBothCG Bo)) :: tblPb0
theorem runPub (N : BL → N4) (X : BL → BL) (p : N4 → BL) (D : BL → N4) (A M : N4 → N4 → N4) (R : N4 → N4) (B : N4 → BL) (Nu : N4 → N4) (l : BL) : fnS Tryz.prog (lookG (tblPb N X p D A M R B Nu)) (orcA []) [] 20 7 [sc (.d8 l)] =
    some (AV.tup [(false, [IV.d8 (cutL (p (N l)) 0 (List.length (p (N l))) (List.length (p (N l))))]), (false, [IV.i64 (0 : Int)])], [List.length l = List.length l, List.length l = 32, 0 + List.length (p (N l)) ≤ List.length (p (N l))]) := by kernel_rfl
def tblPe : List (FuncId × CtS) := [(14, .fn spSecF)]
theorem okPe : TblOk Tryz.prog tblPe := ⟨⟨ctSecF, by kernel_rfl⟩, trivial⟩
theorem gsPe : GSound Tryz.prog (upG (lookG tblPe)) := GSound_of_tbl okPe
theorem runPub1 (l : BL) : fnS Tryz.prog (lookG tblPe) (orcA []) [] 20 7 [sc (.d8 l)] =
    some (AV.tup [(false, [IV.d8 (cutL [] 0 0 0)]), (false, [IV.i64 (1 : Int)])], [List.length l = List.length l, List.length l ≠ 32, 0 ≤ 0]) := by kernel_rfl
theorem runSig (N : BL → N4) (X : BL → BL) (p : N4 → BL) (D : BL → N4) (A M : N4 → N4 → N4) (R : N4 → N4) (B : N4 → BL) (Nu : N4 → N4) (l b : BL) : fnS Tryz.prog (lookG (tblPb N X p D A M R B Nu)) (orcA []) [] 20 12 [sc (.d8 l), sc (.d8 b)] =
    some (AV.tup [(false, [IV.d8 (cutL (p (Nu (D (X l ++ b))) ++ B (A (D (X l ++ b)) (M (D (p (Nu (D (X l ++ b))) ++ p (N l) ++ b)) (R (N l))))) 0 (p (Nu (D (X l ++ b))) ++ B (A (D (X l ++ b)) (M (D (p (Nu (D (X l ++ b))) ++ p (N l) ++ b)) (R (N l))))).length (p (Nu (D (X l ++ b))) ++ B (A (D (X l ++ b)) (M (D (p (Nu (D (X l ++ b))) ++ p (N l) ++ b)) (R (N l))))).length)]), (false, [IV.i64 (0 : Int)])], [List.length l = List.length l, List.length l = 32, List.length (X l) = List.length (X l), List.length b = List.length b, List.length (X l) + List.length b ≤ 100000, List.length (p (Nu (D (X l ++ b)))) = List.length (p (Nu (D (X l ++ b)))), List.length (p (N l)) = List.length (p (N l)), List.length b = List.length b, List.length (p (Nu (D (X l ++ b)))) + List.length (p (N l)) + List.length b ≤ 100000, List.length (p (Nu (D (X l ++ b)))) = List.length (p (Nu (D (X l ++ b)))), List.length (B (A (D (X l ++ b)) (M (D (p (Nu (D (X l ++ b))) ++ p (N l) ++ b)) (R (N l))))) = List.length (B (A (D (X l ++ b)) (M (D (p (Nu (D (X l ++ b))) ++ p (N l) ++ b)) (R (N l))))), List.length (p (Nu (D (X l ++ b)))) + List.length (B (A (D (X l ++ b)) (M (D (p (Nu (D (X l ++ b))) ++ p (N l) ++ b)) (R (N l))))) ≤ 100000, 0 + (p (Nu (D (X l ++ b))) ++ B (A (D (X l ++ b)) (M (D (p (Nu (D (X l ++ b))) ++ p (N l) ++ b)) (R (N l))))).length ≤ (p (Nu (D (X l ++ b))) ++ B (A (D (X l ++ b)) (M (D (p (Nu (D (X l ++ b))) ++ p (N l) ++ b)) (R (N l))))).length]) := by kernel_rfl
theorem runSig1 (l b : BL) : fnS Tryz.prog (lookG tblPe) (orcA []) [] 20 12 [sc (.d8 l), sc (.d8 b)] =
    some (AV.tup [(false, [IV.d8 (cutL [] 0 0 0)]), (false, [IV.i64 (1 : Int)])], [List.length l = List.length l, List.length l ≠ 32, 0 ≤ 0]) := by kernel_rfl
theorem runVfL (D : BL → N4) (Nu : N4 → N4) (C : BL → PR) (F : BL → N4 × Int) (Sm : N4 → N4 → Bool) (Ng : N4 → N4 → PR) (Bo : N4 → N4 → N4 → N4 → N4 → N4 → PR) (k b s : BL) : fnS Tryz.prog (lookG (tblVf D Nu C F Sm Ng Bo)) (orcP [(1, [(2, true)])] [(3, [2]), (13, [2]), (17, [8])]) [] 20 10 [sc (.d8 k), sc (.d8 b), sc (.d8 s)] =
    some (sc (IV.i64 (1 : Int)), [(!(↑(List.length k) : Int) == (32 : Int)) = true]) := by kernel_rfl
theorem runVfS (D : BL → N4) (Nu : N4 → N4) (C : BL → PR) (F : BL → N4 × Int) (Sm : N4 → N4 → Bool) (Ng : N4 → N4 → PR) (Bo : N4 → N4 → N4 → N4 → N4 → N4 → PR) (k b s : BL) : fnS Tryz.prog (lookG (tblVf D Nu C F Sm Ng Bo)) (orcP [(1, [(2, false), (6, true)])] [(3, [2]), (13, [2]), (17, [8])]) [] 20 10 [sc (.d8 k), sc (.d8 b), sc (.d8 s)] =
    some (sc (IV.i64 (1 : Int)), [(!(↑(List.length k) : Int) == (32 : Int)) = false, (!(↑(List.length s) : Int) == (64 : Int)) = true]) := by kernel_rfl
theorem runVfF (D : BL → N4) (Nu : N4 → N4) (C : BL → PR) (F : BL → N4 × Int) (Sm : N4 → N4 → Bool) (Ng : N4 → N4 → PR) (Bo : N4 → N4 → N4 → N4 → N4 → N4 → PR) (k b s : BL) : fnS Tryz.prog (lookG (tblVf D Nu C F Sm Ng Bo)) (orcP [(1, [(2, false), (6, false)]), (4, [(1, true)])] [(3, [2]), (13, [2]), (17, [8])]) [] 20 10 [sc (.d8 k), sc (.d8 b), sc (.d8 s)] =
    some (sc (IV.i64 (F (cutL s (0 + Int.toNat (32 : Int)) (List.length s - Int.toNat (32 : Int)) (List.length s))).snd), [(!(↑(List.length k) : Int) == (32 : Int)) = false, (!(↑(List.length s) : Int) == (64 : Int)) = false, (0 : Int) ≤ (32 : Int), 32 ≤ List.length s, List.length s ≤ List.length s, 32 + (List.length s - 32) ≤ List.length s, (!(F (cutL s (0 + Int.toNat (32 : Int)) (List.length s - Int.toNat (32 : Int)) (List.length s))).snd == (0 : Int)) = true]) := by kernel_rfl
theorem runVfK (D : BL → N4) (Nu : N4 → N4) (C : BL → PR) (F : BL → N4 × Int) (Sm : N4 → N4 → Bool) (Ng : N4 → N4 → PR) (Bo : N4 → N4 → N4 → N4 → N4 → N4 → PR) (k b s : BL) : fnS Tryz.prog (lookG (tblVf D Nu C F Sm Ng Bo)) (orcP [(1, [(2, false), (6, false)]), (4, [(1, false)]), (7, [(1, true)])] [(3, [2]), (13, [2]), (17, [8])]) [] 20 10 [sc (.d8 k), sc (.d8 b), sc (.d8 s)] =
    some (sc (IV.i64 (C k).e), [(!(↑(List.length k) : Int) == (32 : Int)) = false, (!(↑(List.length s) : Int) == (64 : Int)) = false, (0 : Int) ≤ (32 : Int), 32 ≤ List.length s, List.length s ≤ List.length s, 32 + (List.length s - 32) ≤ List.length s, (!(F (cutL s (0 + Int.toNat (32 : Int)) (List.length s - Int.toNat (32 : Int)) (List.length s))).snd == (0 : Int)) = false, List.length k = List.length k, (!(C k).e == (0 : Int)) = true]) := by kernel_rfl
theorem runVfM (D : BL → N4) (Nu : N4 → N4) (C : BL → PR) (F : BL → N4 × Int) (Sm : N4 → N4 → Bool) (Ng : N4 → N4 → PR) (Bo : N4 → N4 → N4 → N4 → N4 → N4 → PR) (k b s : BL) : fnS Tryz.prog (lookG (tblVf D Nu C F Sm Ng Bo)) (orcP [(1, [(2, false), (6, false)]), (4, [(1, false)]), (7, [(1, false)]), (8, [(1, true)])] [(3, [2]), (13, [2]), (17, [8])]) [] 20 10 [sc (.d8 k), sc (.d8 b), sc (.d8 s)] =
    some (sc (IV.i64 (7 : Int)), [(!(↑(List.length k) : Int) == (32 : Int)) = false, (!(↑(List.length s) : Int) == (64 : Int)) = false, (0 : Int) ≤ (32 : Int), 32 ≤ List.length s, List.length s ≤ List.length s, 32 + (List.length s - 32) ≤ List.length s, (!(F (cutL s (0 + Int.toNat (32 : Int)) (List.length s - Int.toNat (32 : Int)) (List.length s))).snd == (0 : Int)) = false, List.length k = List.length k, (!(C k).e == (0 : Int)) = false, Sm (C k).x (C k).y = true]) := by kernel_rfl
theorem runVfR (D : BL → N4) (Nu : N4 → N4) (C : BL → PR) (F : BL → N4 × Int) (Sm : N4 → N4 → Bool) (Ng : N4 → N4 → PR) (Bo : N4 → N4 → N4 → N4 → N4 → N4 → PR) (k b s : BL) : fnS Tryz.prog (lookG (tblVf D Nu C F Sm Ng Bo)) (orcP [(1, [(2, false), (6, false)]), (4, [(1, false)]), (7, [(1, false)]), (8, [(1, false)]), (11, [(1, false)]), (14, [(1, true)])] [(3, [2]), (13, [2]), (17, [8])]) [] 20 10 [sc (.d8 k), sc (.d8 b), sc (.d8 s)] =
    some (sc (IV.i64 (C (cutL s (0 + 0) (Int.toNat (32 : Int) - 0) (List.length s))).e), [(!(↑(List.length k) : Int) == (32 : Int)) = false, (!(↑(List.length s) : Int) == (64 : Int)) = false, (0 : Int) ≤ (32 : Int), 32 ≤ List.length s, List.length s ≤ List.length s, 32 + (List.length s - 32) ≤ List.length s, (!(F (cutL s (0 + Int.toNat (32 : Int)) (List.length s - Int.toNat (32 : Int)) (List.length s))).snd == (0 : Int)) = false, List.length k = List.length k, (!(C k).e == (0 : Int)) = false, Sm (C k).x (C k).y = false, (!(C k).e == (0 : Int)) = false, (0 : Int) ≤ (32 : Int), 0 ≤ 32, 32 ≤ List.length s, 32 ≤ List.length s, (!(C (cutL s (0 + 0) (Int.toNat (32 : Int) - 0) (List.length s))).e == (0 : Int)) = true]) := by kernel_rfl
theorem runVfN (D : BL → N4) (Nu : N4 → N4) (C : BL → PR) (F : BL → N4 × Int) (Sm : N4 → N4 → Bool) (Ng : N4 → N4 → PR) (Bo : N4 → N4 → N4 → N4 → N4 → N4 → PR) (k b s : BL) : fnS Tryz.prog (lookG (tblVf D Nu C F Sm Ng Bo)) (orcP [(1, [(2, false), (6, false)]), (4, [(1, false)]), (7, [(1, false)]), (8, [(1, false)]), (11, [(1, false)]), (14, [(1, false)]), (18, [(2, true)])] [(3, [2]), (13, [2]), (17, [8])]) [] 20 10 [sc (.d8 k), sc (.d8 b), sc (.d8 s)] =
    some (sc (IV.i64 (10 : Int)), [(!(↑(List.length k) : Int) == (32 : Int)) = false, (!(↑(List.length s) : Int) == (64 : Int)) = false, (0 : Int) ≤ (32 : Int), 32 ≤ List.length s, List.length s ≤ List.length s, 32 + (List.length s - 32) ≤ List.length s, (!(F (cutL s (0 + Int.toNat (32 : Int)) (List.length s - Int.toNat (32 : Int)) (List.length s))).snd == (0 : Int)) = false, List.length k = List.length k, (!(C k).e == (0 : Int)) = false, Sm (C k).x (C k).y = false, (!(C k).e == (0 : Int)) = false, (0 : Int) ≤ (32 : Int), 0 ≤ 32, 32 ≤ List.length s, 32 ≤ List.length s, (!(C (cutL s (0 + 0) (Int.toNat (32 : Int) - 0) (List.length s))).e == (0 : Int)) = false, (0 : Int) ≤ (32 : Int), 0 ≤ 32, 32 ≤ List.length s, 32 ≤ List.length s, 0 + List.length k ≤ List.length k, 0 + List.length b ≤ List.length b, (cutL s 0 32 (List.length s)).length + (cutL k 0 (List.length k) (List.length k)).length + (cutL b 0 (List.length b) (List.length b)).length ≤ 100000, (!((Bo (Nu (F (cutL s (0 + Int.toNat (32 : Int)) (List.length s - Int.toNat (32 : Int)) (List.length s))).fst) (ofN bxN) (ofN byN) (Nu (D (cutL s (0 + 0) (Int.toNat (32 : Int) - 0) (List.length s) ++ cutL k 0 (List.length k) (List.length k) ++ cutL b 0 (List.length b) (List.length b)))) (Ng (C k).x (C k).y).x (Ng (C k).x (C k).y).y).x.eq (C (cutL s (0 + 0) (Int.toNat (32 : Int) - 0) (List.length s))).x && ((Bo (Nu (F (cutL s (0 + Int.toNat (32 : Int)) (List.length s - Int.toNat (32 : Int)) (List.length s))).fst) (ofN bxN) (ofN byN) (Nu (D (cutL s (0 + 0) (Int.toNat (32 : Int) - 0) (List.length s) ++ cutL k 0 (List.length k) (List.length k) ++ cutL b 0 (List.length b) (List.length b)))) (Ng (C k).x (C k).y).x (Ng (C k).x (C k).y).y).y.eq (C (cutL s (0 + 0) (Int.toNat (32 : Int) - 0) (List.length s))).y && true))) = true]) := by kernel_rfl
theorem runVfY (D : BL → N4) (Nu : N4 → N4) (C : BL → PR) (F : BL → N4 × Int) (Sm : N4 → N4 → Bool) (Ng : N4 → N4 → PR) (Bo : N4 → N4 → N4 → N4 → N4 → N4 → PR) (k b s : BL) : fnS Tryz.prog (lookG (tblVf D Nu C F Sm Ng Bo)) (orcP [(1, [(2, false), (6, false)]), (4, [(1, false)]), (7, [(1, false)]), (8, [(1, false)]), (11, [(1, false)]), (14, [(1, false)]), (18, [(2, false)])] [(3, [2]), (13, [2]), (17, [8])]) [] 20 10 [sc (.d8 k), sc (.d8 b), sc (.d8 s)] =
    some (sc (IV.i64 (0 : Int)), [(!(↑(List.length k) : Int) == (32 : Int)) = false, (!(↑(List.length s) : Int) == (64 : Int)) = false, (0 : Int) ≤ (32 : Int), 32 ≤ List.length s, List.length s ≤ List.length s, 32 + (List.length s - 32) ≤ List.length s, (!(F (cutL s (0 + Int.toNat (32 : Int)) (List.length s - Int.toNat (32 : Int)) (List.length s))).snd == (0 : Int)) = false, List.length k = List.length k, (!(C k).e == (0 : Int)) = false, Sm (C k).x (C k).y = false, (!(C k).e == (0 : Int)) = false, (0 : Int) ≤ (32 : Int), 0 ≤ 32, 32 ≤ List.length s, 32 ≤ List.length s, (!(C (cutL s (0 + 0) (Int.toNat (32 : Int) - 0) (List.length s))).e == (0 : Int)) = false, (0 : Int) ≤ (32 : Int), 0 ≤ 32, 32 ≤ List.length s, 32 ≤ List.length s, 0 + List.length k ≤ List.length k, 0 + List.length b ≤ List.length b, (cutL s 0 32 (List.length s)).length + (cutL k 0 (List.length k) (List.length k)).length + (cutL b 0 (List.length b) (List.length b)).length ≤ 100000, (!((Bo (Nu (F (cutL s (0 + Int.toNat (32 : Int)) (List.length s - Int.toNat (32 : Int)) (List.length s))).fst) (ofN bxN) (ofN byN) (Nu (D (cutL s (0 + 0) (Int.toNat (32 : Int) - 0) (List.length s) ++ cutL k 0 (List.length k) (List.length k) ++ cutL b 0 (List.length b) (List.length b)))) (Ng (C k).x (C k).y).x (Ng (C k).x (C k).y).y).x.eq (C (cutL s (0 + 0) (Int.toNat (32 : Int) - 0) (List.length s))).x && ((Bo (Nu (F (cutL s (0 + Int.toNat (32 : Int)) (List.length s - Int.toNat (32 : Int)) (List.length s))).fst) (ofN bxN) (ofN byN) (Nu (D (cutL s (0 + 0) (Int.toNat (32 : Int) - 0) (List.length s) ++ cutL k 0 (List.length k) (List.length k) ++ cutL b 0 (List.length b) (List.length b)))) (Ng (C k).x (C k).y).x (Ng (C k).x (C k).y).y).y.eq (C (cutL s (0 + 0) (Int.toNat (32 : Int) - 0) (List.length s))).y && true))) = false]) := by kernel_rfl
def SBY (a : N4) : BL := bl (val a % Lo) 32
theorem ctSByU : CtSOk Tryz.prog 39 (.fn (spSB8 SBY)) := ctSBytes
theorem gsPb : GSound Tryz.prog (upG (lookG (tblPb secN secX ptB digN addS mulS redN SBY redN))) := GSound_of_tbl ⟨⟨ctSecT, by kernel_rfl⟩, ⟨ctPtS, by kernel_rfl⟩, ⟨ctDig, by kernel_rfl⟩, ⟨ctSAdd, by kernel_rfl⟩, ⟨ctSMul, by kernel_rfl⟩, ⟨ctRedU, by kernel_rfl⟩, ⟨ctNumU, by kernel_rfl⟩, ⟨ctSByU, by kernel_rfl⟩, okPb0⟩
theorem gsVf : GSound Tryz.prog (upG (lookG (tblVf digN redN decR sdecV smallR negR bothR))) := GSound_of_tbl ⟨⟨ctDig, by kernel_rfl⟩, ⟨ctNumU, by kernel_rfl⟩, ⟨ctDecC, by kernel_rfl⟩, ⟨ctDecU, by kernel_rfl⟩, ⟨ctSmallC, by kernel_rfl⟩, ⟨ctNegC, by kernel_rfl⟩, ⟨ctBothC, by kernel_rfl⟩, okPb0⟩
def pubB (l : BL) : BL := if l.length = 32 then ptB (secN l) else []
def eL (l : BL) : Int := if l.length = 32 then 0 else 1
def spPubG (p : BL → BL) (e : BL → Int) : List AV → Option (AV × List Prop)
  | [.val false [.d8 l]] => some (.tup [(false, [.d8 (p l)]), (false, [.i64 (e l)])], [])
  | _ => none
theorem cutW {α : Type} (l : List α) : cutL l 0 l.length l.length = l := by rw [cutL_eq rfl, List.drop_zero, List.take_length]
theorem ctPub : CtSOk Tryz.prog 7 (.fn (spPubG pubB eL)) := FnS_intro fun ds r cs hd _ w vals hv => by
  unfold spPubG at hd
  split at hd
  case h_2 => simp at hd
  rename_i l
  simp only [Option.some.injEq, Prod.mk.injEq] at hd
  obtain ⟨rfl, rfl⟩ := hd
  by_cases h : l.length = 32
  · have r0 := runPub secN secX ptB digN addS mulS redN SBY redN l
    rw [cutW] at r0
    rw [pubB, eL, if_pos h, if_pos h]
    exact calls_of_fnS gsPb fol r0 ⟨rfl, h, by omega, trivial⟩ w vals hv
  · rw [pubB, eL, if_neg h, if_neg h]
    exact calls_of_fnS gsPe fol (runPub1 l) ⟨rfl, h, by omega, trivial⟩ w vals hv
/-- The two numbers that a signature hangs on, and its bytes. -/
def sgR (l b : BL) : N4 := digN (secX l ++ b)
def sgF (l b : BL) : BL := ptB (redN (sgR l b))
def sgK (l b : BL) : N4 := digN (sgF l b ++ ptB (secN l) ++ b)
def sgS (l b : BL) : N4 := addS (sgR l b) (mulS (sgK l b) (redN (secN l)))
def sgB (l b : BL) : BL := if l.length = 32 then sgF l b ++ SBY (sgS l b) else []
def spSigG (p : BL → BL → BL) (e : BL → Int) : List AV → Option (AV × List Prop)
  | [.val false [.d8 l], .val false [.d8 b]] => some (.tup [(false, [.d8 (p l b)]), (false, [.i64 (e l)])], [b.length ≤ 4000])
  | _ => none
theorem ptB_len (n : N4) : (ptB n).length ≤ 32 := by
  unfold ptB encR
  split
  · exact Nat.le_of_eq (bl_length _ _)
  · exact Nat.zero_le _
theorem SBY_len (a : N4) : (SBY a).length = 32 := bl_length _ _
theorem secX_len (l : BL) : (secX l).length = 32 := by rw [secX, List.length_drop, shaL_len]
theorem ctSig : CtSOk Tryz.prog 12 (.fn (spSigG sgB eL)) := FnS_intro fun ds r cs hd hc w vals hv => by
  unfold spSigG at hd
  split at hd
  case h_2 => simp at hd
  rename_i l b
  simp only [Option.some.injEq, Prod.mk.injEq] at hd
  obtain ⟨rfl, rfl⟩ := hd
  have hb : b.length ≤ 4000 := hc.1
  by_cases h : l.length = 32
  · have r0 := runSig secN secX ptB digN addS mulS redN SBY redN l b
    have e : sgB l b = sgF l b ++ SBY (sgS l b) := by rw [sgB, if_pos h]
    have l1 := ptB_len (redN (sgR l b))
    have l2 := ptB_len (secN l)
    have l3 := SBY_len (sgS l b)
    have l4 := secX_len l
    rw [cutW] at r0
    rw [e, eL, if_pos h]
    refine calls_of_fnS gsPb fol r0 ?_ w vals hv
    clear r0 e
    have l1' : (ptB (redN (digN (secX l ++ b)))).length ≤ 32 := l1
    have l3' : (SBY (addS (digN (secX l ++ b)) (mulS (digN (ptB (redN (digN (secX l ++ b))) ++ ptB (secN l) ++ b)) (redN (secN l))))).length = 32 := l3
    clear l1 l3
    simp only [AllP, List.length_append]
    and_intros <;> first | exact True.intro | with_reducible rfl | omega
  · rw [sgB, eL, if_neg h, if_neg h]
    exact calls_of_fnS gsPe fol (runSig1 l b) ⟨rfl, h, by omega, trivial⟩ w vals hv
/-- Whether a signature is one, and why not. -/
def verR (s key b : BL) : PR := bothR (redN (sdecV (s.drop 32)).1) (ofN bxN) (ofN byN) (redN (digN (s.take 32 ++ key ++ b))) (negR (decR key).x (decR key).y).x (negR (decR key).x (decR key).y).y
def verE (k b s : BL) : Int :=
  if k.length ≠ 32 then 1 else if s.length ≠ 64 then 1 else
  if (sdecV (s.drop 32)).2 ≠ 0 then (sdecV (s.drop 32)).2 else
  if (decR k).e ≠ 0 then (decR k).e else
  if smallR (decR k).x (decR k).y = true then 7 else
  if (decR (s.take 32)).e ≠ 0 then (decR (s.take 32)).e else
  if ((verR s k b).x.eq (decR (s.take 32)).x && ((verR s k b).y.eq (decR (s.take 32)).y && true)) = true then 0 else 10
def spVerG (v : BL → BL → BL → Int) : List AV → Option (AV × List Prop)
  | [.val false [.d8 k], .val false [.d8 b], .val false [.d8 s]] => some (sc (.i64 (v k b s)), [b.length ≤ 4000])
  | _ => none
theorem neT {n : Int} (h : n ≠ 0) : (!(n == (0 : Int))) = true := by rw [Bool.not_eq_true', beq_eq_false_iff_ne]; exact h
theorem neF {n : Int} (h : ¬ n ≠ 0) : (!(n == (0 : Int))) = false := by rw [Decidable.not_not.1 h]; rfl
theorem lnT {n m : Nat} (h : n ≠ m) : (!((n : Int) == (m : Int))) = true := by rw [Bool.not_eq_true', beq_eq_false_iff_ne]; omega
theorem lnF {n m : Nat} (h : ¬ n ≠ m) : (!((n : Int) == (m : Int))) = false := by rw [Decidable.not_not.1 h, beq_self_eq_true]; rfl
theorem eqF' {b : Bool} (h : ¬ b = true) : b = false := Bool.eq_false_iff.2 h
theorem ctVer : CtSOk Tryz.prog 10 (.fn (spVerG verE)) := FnS_of_fnS gsVf fol fun ds r cs h hc => by
  unfold spVerG at h
  split at h
  case h_2 => simp at h
  rename_i k b s
  simp only [Option.some.injEq, Prod.mk.injEq] at h
  obtain ⟨rfl, rfl⟩ := h
  have hb : b.length ≤ 4000 := hc.1
  unfold verE
  by_cases h1 : k.length ≠ 32
  · rw [if_pos h1]
    exact use_run (runVfL digN redN decR sdecV smallR negR bothR k b s) rfl ⟨lnT (m := 32) h1, trivial⟩
  rw [if_neg h1]
  by_cases h2 : s.length ≠ 64
  · rw [if_pos h2]
    exact use_run (runVfS digN redN decR sdecV smallR negR bothR k b s) rfl ⟨lnF (m := 32) h1, lnT (m := 64) h2, trivial⟩
  rw [if_neg h2]
  have a1 : (!((k.length : Int) == (32 : Int))) = false := lnF (m := 32) h1
  have a2 : (!((s.length : Int) == (64 : Int))) = false := lnF (m := 64) h2
  have hk : k.length = 32 := Decidable.not_not.1 h1
  have hs : s.length = 64 := Decidable.not_not.1 h2
  have c1 : cutL s (0 + Int.toNat (32 : Int)) (s.length - Int.toNat (32 : Int)) s.length = s.drop 32 := by
    rw [cutL_eq rfl, toNat32, Nat.zero_add, List.take_of_length_le (by rw [List.length_drop]; omega)]
  have c2 : cutL s (0 + 0) (Int.toNat (32 : Int) - 0) s.length = s.take 32 := by rw [cutL_eq rfl, toNat32]; rfl
  have c3 : cutL s 0 32 s.length = s.take 32 := by rw [cutL_eq rfl]; rfl
  by_cases h3 : (sdecV (s.drop 32)).2 ≠ 0
  · rw [if_pos h3]
    have r0 := runVfF digN redN decR sdecV smallR negR bothR k b s
    rw [c1] at r0
    refine use_run r0 rfl ?_
    clear r0
    have b3 := neT h3
    simp only [AllP]
    and_intros <;> first | exact True.intro | with_reducible assumption | with_reducible rfl | omega
  rw [if_neg h3]
  have b3 := neF h3
  by_cases h4 : (decR k).e ≠ 0
  · rw [if_pos h4]
    have r0 := runVfK digN redN decR sdecV smallR negR bothR k b s
    rw [c1] at r0
    refine use_run r0 rfl ?_
    clear r0
    have b4 := neT h4
    simp only [AllP]
    and_intros <;> first | exact True.intro | with_reducible assumption | with_reducible rfl | omega
  rw [if_neg h4]
  have b4 := neF h4
  by_cases h5 : smallR (decR k).x (decR k).y = true
  · rw [if_pos h5]
    have r0 := runVfM digN redN decR sdecV smallR negR bothR k b s
    rw [c1] at r0
    refine use_run r0 rfl ?_
    clear r0
    simp only [AllP]
    and_intros <;> first | exact True.intro | with_reducible assumption | with_reducible rfl | omega
  rw [if_neg h5]
  have b5 := eqF' h5
  by_cases h6 : (decR (s.take 32)).e ≠ 0
  · rw [if_pos h6]
    have r0 := runVfR digN redN decR sdecV smallR negR bothR k b s
    rw [c1, c2] at r0
    refine use_run r0 rfl ?_
    clear r0
    have b6 := neT h6
    simp only [AllP]
    and_intros <;> first | exact True.intro | with_reducible assumption | with_reducible rfl | omega
  rw [if_neg h6]
  have b6 := neF h6
  have hl : (s.take 32).length + k.length + b.length ≤ 100000 := by rw [List.length_take]; omega
  by_cases h7 : ((verR s k b).x.eq (decR (s.take 32)).x && ((verR s k b).y.eq (decR (s.take 32)).y && true)) = true
  · rw [if_pos h7]
    have r0 := runVfY digN redN decR sdecV smallR negR bothR k b s
    rw [c1, c2, c3, cutW, cutW] at r0
    refine use_run r0 rfl ?_
    clear r0
    have b7 : (!((verR s k b).x.eq (decR (s.take 32)).x && ((verR s k b).y.eq (decR (s.take 32)).y && true))) = false := by rw [h7]; rfl
    unfold verR at b7
    simp only [AllP]
    and_intros <;> first | exact True.intro | with_reducible assumption | with_reducible rfl | omega
  · rw [if_neg h7]
    have r0 := runVfN digN redN decR sdecV smallR negR bothR k b s
    rw [c1, c2, c3, cutW, cutW] at r0
    refine use_run r0 rfl ?_
    clear r0
    have b7 : (!((verR s k b).x.eq (decR (s.take 32)).x && ((verR s k b).y.eq (decR (s.take 32)).y && true))) = true := by rw [eqF' h7]; rfl
    unfold verR at b7
    simp only [AllP]
    and_intros <;> first | exact True.intro | with_reducible assumption | with_reducible rfl | omega
end Go.Proofs.YtlgiaglbdifkpaaGreatDoor
/- Layer 8: the laws' runs over generic functions. Own work. -/
namespace Go.Proofs.YtlgiaglbdifkpaaGreatDoor
open Go.Ev Go.Sp Go.RowKit
set_option maxRecDepth 100000
theorem eq_selfN (a : N4) : a.eq a = true := by
  have h := eq_N4 a a
  rwa [Bool.and_true, beq_self_eq_true] at h
end Go.Proofs.YtlgiaglbdifkpaaGreatDoor
/- Layer 8: the law CurveSmalls. Own work. -/
namespace Go.Proofs.YtlgiaglbdifkpaaGreatDoor
open Go.Ev Go.Sp Go.RowKit
set_option maxRecDepth 100000
end Go.Proofs.YtlgiaglbdifkpaaGreatDoor
/- Layer 8, plain: sums of points as the group's. Own work. -/
namespace Go.Proofs.YtlgiaglbdifkpaaGreatDoor
open Go.Ev Go.Sp Go.RowKit
theorem val_xP (P : Pt Ed) : val (prP P).x = P.x.val := val_lo P.x.isLt
theorem val_yP (P : Pt Ed) : val (prP P).y = P.y.val := val_lo P.y.isLt
theorem prP_on (P : Pt Ed) : onV (val (prP P).x) (val (prP P).y) = true := by
  rw [val_xP, val_yP]
  refine onV_iff.2 ⟨P.x.isLt, P.y.isLt, on_OnN ?_⟩
  rw [tF_val, tF_val]
  exact P.on
theorem ptV_prP (P : Pt Ed) (h : onV (val (prP P).x) (val (prP P).y) = true) : ptV (prP P).x (prP P).y h = P := by
  refine Pt.ext ?_ ?_
  · show tF (val (prP P).x) = P.x
    rw [val_xP, tF_val]
  · show tF (val (prP P).y) = P.y
    rw [val_yP, tF_val]
theorem prP_ptV {x y : N4} (h : onV (val x) (val y) = true) : prP (ptV x y h) = ⟨x, y, 0⟩ := by
  obtain ⟨h1, h2, _⟩ := onV_iff.1 h
  have e1 : ofN (ptV x y h).x.val = x := by
    show ofN (tF (val x)).val = x
    rw [val_tF h1, ofN_val]
  have e2 : ofN (ptV x y h).y.val = y := by
    show ofN (tF (val y)).val = y
    rw [val_tF h2, ofN_val]
  rw [prP, e1, e2]
theorem negR_P {x y : N4} (h : onV (val x) (val y) = true) : negR x y = prP (ptV x y h).neg := by rw [negR, dif_pos h]
theorem multR_P {n x y : N4} (h : onV (val x) (val y) = true) : multR n x y = prP (Pt.times (val n) (ptV x y h)) := by rw [multR, dif_pos h]
theorem ptV_B : ptV (ofN bxN) (ofN byN) base_onV = Bp := by
  have h1 : bxN < Pp := by decide
  have h2 : byN < Pp := by decide
  refine Pt.ext ?_ ?_
  · show tF (val (ofN bxN)) = tF bxN
    rw [val_lo h1]
  · show tF (val (ofN byN)) = tF byN
    rw [val_lo h2]
end Go.Proofs.YtlgiaglbdifkpaaGreatDoor
