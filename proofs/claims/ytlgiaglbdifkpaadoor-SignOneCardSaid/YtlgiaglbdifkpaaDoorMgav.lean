/- Texts put together: SgE SgF SgG EvN SgK SgR. Own work. -/
import Derived.Test.YtlgiaglbdifkpaaDoorMgau
import Derived.ProofKit
import Derived.OpenShut
import Derived.SizedLaws
import Derived.Test.YtlgiaglbdifkpaaDoorRows
import Derived.Test.YtlgiaglbdifkpaaDoorTie
import Derived.Test.YtlgiaglbdifkpaaDoorCards
import Derived.LaidMore
import Derived.Stop.Joined
import Derived.Lib.LaidTab
import Derived.SevenTiedAt
/- The public key of 32 noughts, computed by the kernel. Own work. -/
namespace Go.Proofs.YtlgiaglbdifkpaaDoor
open Go.Ev Go.Sp Go.RowKit
set_option maxRecDepth 100000
/-! ### The rounds over the ring of words -/
def nextF (r : List W6) (t : Nat) : W6 := r.getD (t % 16) 0#64 + (sR3 (r.getD ((t + 1) % 16) 0#64) 1 8 7 + r.getD ((t + 9) % 16) 0#64 + sR3 (r.getD ((t + 14) % 16) 0#64) 19 61 6)
theorem nextF_ring (l : BL) (t : Nat) (h : 16 ≤ t) : nextF (ring l t) t = wd l t := by
  have e := b2X_ring l t h
  unfold b2X b2At at e
  rw [show ((t : Nat) : Int) + 1 = ((t + 1 : Nat) : Int) by omega, show ((t : Nat) : Int) + 9 = ((t + 9 : Nat) : Int) by omega, show ((t : Nat) : Int) + 14 = ((t + 14 : Nat) : Int) by omega, tm16, tm16, tm16, tm16] at e
  simp only [Int.toNat_natCast, Nat.zero_add, Nat.mul_one] at e
  exact e
def goS : Nat → Nat → List W6 → E8 → E8
  | 0, _, _, s => s
  | n + 1, t, r, s =>
    let w := if t < 16 then r.getD t 0#64 else nextF r t
    let s' := rnd s (kW t) w
    if s'.a.toNat + s'.e.toNat + w.toNat = 73786976294838206464 then s else goS n (t + 1) (if t < 16 then r else r.set (t % 16) w) s'
theorem goS_ok (l : BL) (v : E8) : ∀ n t, goS n t (ring l t) (rnds l v t) = rnds l v (t + n)
  | 0, t => rfl
  | n + 1, t => by
    have hw : (if t < 16 then (ring l t).getD t 0#64 else nextF (ring l t) t) = wd l t := by
      by_cases h : t < 16
      · rw [if_pos h]
        have := ring_get l t t h
        rw [show ri t t = t by unfold ri; omega] at this
        exact this
      · rw [if_neg h, nextF_ring l t (by omega)]
    have hr : (if t < 16 then ring l t else (ring l t).set (t % 16) (wd l t)) = ring l (t + 1) := by
      by_cases h : t < 16
      · rw [if_pos h, ring_low l t h]
      · rw [if_neg h, ring_next l t (by omega)]
    rw [goS]
    simp only [hw, hr]
    have h1 := (rnd (rnds l v t) (kW t) (wd l t)).a.isLt
    have h2 := (rnd (rnds l v t) (kW t) (wd l t)).e.isLt
    have h3 := (wd l t).isLt
    rw [if_neg (by omega), ← rnds_succ, goS_ok l v n (t + 1)]
    congr 1
    omega
theorem rnds80 (l : BL) (v : E8) : rnds l v 80 = goS 80 0 (words16 l) v := by
  have := goS_ok l v 80 0
  rw [ring_zero] at this
  rw [Nat.zero_add] at this
  exact this.symm
/-! ### The sum of 32 noughts -/
def z32 : BL := List.replicate 32 0#8
def zPad : BL := List.replicate 32 0#8 ++ [128#8] ++ List.replicate 93 0#8 ++ [1#8, 0#8]
theorem padP_z : padP z32 = zPad := by kernel_rfl
def zSum : E8 := ⟨0x5046adc1dba83886#64, 0x7b2bbbfdd0c3423e#64, 0x58b57970b5267a90#64, 0xf57960924a87f196#64, 0x0a6a85eaa642dac8#64, 0x35424b5d7c8d637c#64, 0x00408c7a73da672b#64, 0x7f498521420b6dd3#64⟩
theorem blk_z : fst8.add (goS 80 0 (words16 zPad) fst8) = zSum := by kernel_rfl
theorem sha_z : shaL z32 = toldP zSum := by
  rw [shaL, padP_z, show zPad.length / 128 = 1 from by kernel_rfl]
  rw [show sumH fst8 zPad 1 = blk8 fst8 ((zPad.drop (128 * 0)).take 128) from rfl, show (zPad.drop (128 * 0)).take 128 = zPad from by kernel_rfl, blk8, rnds80, blk_z]
def zSec : Nat := 39325648866980652792715009169219496062012184734522019333892538943312776480336
theorem sec_z : secV z32 = zSec := by
  rw [secV, sha_z]
  kernel_rfl
/-! ### Its point -/
def zY : Nat := 18930617471878267742194159801949745215346600387277955685031939302387136031291
def goY : List Bool → T3 → Bool
  | [], p => !(p.z == 0) && fMul zY p.z == p.y
  | b :: r, ⟨x, y, z⟩ => if x + y + z = 0 then false else goY r (if b then plus3 dN (plus3 dN ⟨x, y, z⟩ ⟨x, y, z⟩) ⟨bxN, byN, 1⟩ else plus3 dN ⟨x, y, z⟩ ⟨x, y, z⟩)
theorem goY_ok : ∀ (l : List Bool) (k : Nat) (p : T3), p.Lt → R3 (Pt.times k Bp) p → goY l p = true → (Pt.times (numB l k) Bp).y.val = zY
  | [], k, p, hl, hp, h => by
    simp only [goY, Bool.and_eq_true, Bool.not_eq_true', beq_eq_false_iff_ne, beq_iff_eq] at h
    show (Pt.times k Bp).y.val = zY
    obtain ⟨_, e⟩ := R3.point hp hl.2.2
    rw [← e, ← h.2, fMul_assoc, inv_mul h.1 hl.2.2, fMul_one (by decide)]
  | b :: r, k, ⟨x, y, z⟩, hl, hp, h => by
    unfold goY at h
    split at h
    · simp at h
    have hd := hp.add hp
    rw [← Pt.times_add] at hd
    rw [numB]
    cases b with
    | false =>
      exact goY_ok r _ _ (plus3_lt _ _ _) (by rw [Nat.two_mul]; exact hd) h
    | true =>
      refine goY_ok r _ _ (plus3_lt _ _ _) ?_ h
      rw [Nat.two_mul]
      exact hd.add (R3.of bON)
theorem pt_z : (Pt.times zSec Bp).y.val = zY := by
  have h := goY_ok (bitsB zSec 255) 0 nought3 nought3_lt R3.nought (by kernel_rfl)
  rwa [show numB (bitsB zSec 255) 0 = zSec by kernel_rfl] at h
theorem pub_z0 : (pubB z32).getD 0 0#8 = 59#8 ∧ (pubB z32).getD 1 0#8 = 106#8 ∧ (pubB z32).length = 32 := by
  have h32 : z32.length = 32 := by kernel_rfl
  rw [pubB_eq h32, sec_z]
  have hy : val (prP (Pt.times zSec Bp)).y = zY := by rw [val_yP, pt_z]
  have hb : ∀ x, encB x zY = bl (zY + q255 * (x % 2)) 32 := fun x => rfl
  have g0 : ∀ n, (bl n 32).getD 0 0#8 = BitVec.ofNat 8 n ∧ (bl n 32).getD 1 0#8 = BitVec.ofNat 8 (n / 256) := fun n => by
    have h : ∀ m, (bl n (m + 2)).getD 0 0#8 = BitVec.ofNat 8 n ∧ (bl n (m + 2)).getD 1 0#8 = BitVec.ofNat 8 (n / 256) := fun m => by
      induction m with
      | zero => exact ⟨by simp [bl], by simp [bl]⟩
      | succ m ih =>
        have hl := bl_length n (m + 2)
        rw [bl_snoc, List.getD_eq_getElem?_getD, List.getElem?_append_left (by omega), ← List.getD_eq_getElem?_getD, List.getD_eq_getElem?_getD (i := 1), List.getElem?_append_left (by omega), ← List.getD_eq_getElem?_getD]
        exact ih
    exact h 30
  have k0 : ∀ e, e < 2 → BitVec.ofNat 8 (zY + q255 * e) = 59#8 ∧ BitVec.ofNat 8 ((zY + q255 * e) / 256) = 106#8 := fun e he => by
    have : e = 0 ∨ e = 1 := by omega
    rcases this with rfl | rfl <;> exact ⟨by kernel_rfl, by kernel_rfl⟩
  have e2 := k0 (val (prP (Pt.times zSec Bp)).x % 2) (Nat.mod_lt _ (by omega))
  rw [pB, hy, hb]
  have e1 := g0 (zY + q255 * (val (prP (Pt.times zSec Bp)).x % 2))
  exact ⟨e1.1.trans e2.1, e1.2.trans e2.2, bl_length _ _⟩
theorem ver_z : verE (pubB z32) [] [] = 1 := by
  unfold verE
  rw [if_neg (by rw [pub_z0.2.2]; omega), if_pos (by decide)]
end Go.Proofs.YtlgiaglbdifkpaaDoor
/- Layer 9's laws of the program alone, by contract: what they share. Own work. -/
namespace Go.Proofs.YtlgiaglbdifkpaaDoor
open Go.Ev Go.Sp Go.RowKit
set_option maxRecDepth 100000
theorem runOwn9 (l : BL) : fnS Tryd.prog (lookG []) (orcA []) [] 20 7 [sc (.d8 l)] =
    some (sc (IV.d8 (cutL l 0 (0 + List.length l) (List.length l))), [List.length l = List.length l, 0 = 0, (0 + List.length l) * 1 ≤ 140737488355328 ∧ 0 + List.length l ≤ 9223372036854775807, 0 + (0 + List.length l) ≤ List.length l]) := by kernel_rfl
def spOwn9 : List AV → Option (AV × List Prop)
  | [.val false [.d8 l]] => some (sc (.d8 l), [l.length ≤ 140737488355328])
  | _ => none
theorem ctOwn9 : CtSOk Tryd.prog 7 (.fn spOwn9) := FnS_of_fnS gs0 fol fun ds r cs h hc => by
  unfold spOwn9 at h
  split at h
  case h_2 => simp at h
  rename_i l
  simp only [Option.some.injEq, Prod.mk.injEq] at h
  obtain ⟨rfl, rfl⟩ := h
  have hl := hc.1
  have r0 := runOwn9 l
  refine use_run r0 ?_ ?_
  · clear r0
    rw [Nat.zero_add, cutW]
  · clear r0
    simp only [AllP]
    and_intros <;> first | exact True.intro | with_reducible rfl | omega
def tblAw9 (p : BL → BL) (e : BL → Int) (v : BL → BL → BL → Int) : List (FuncId × CtS) :=
  (8, .fn (spPubG p e)) :: (9, .fn (nil8 (spVerG v))) :: []
theorem ctVer8 : CtSOk Tryd.prog 9 (.fn (nil8 (spVerG verE))) := FnS_nil8 ctVer
theorem gsAw9 : GSound Tryd.prog (upG (lookG (tblAw9 pubB eL verE))) := GSound_of_tbl ⟨⟨ctPub, by kernel_rfl⟩, ⟨ctVer8, by kernel_rfl⟩, trivial⟩
theorem runAw9 (p : BL → BL) (e : BL → Int) (v : BL → BL → BL → Int) : fnS Tryd.prog (lookG (tblAw9 p e v)) (orcA [(2, [(1, true), (5, true), (11, true), (17, true), (22, true)])]) [] 40 5 [] =
    some (sc (IV.bool true), [(0 : Int) ≤ (32 : Int), (0 : Int) ≤ (32 : Int), 32 = 32 ∧ 32 ≤ 281474976710656 ∧ 32 ≤ 9223372036854775807, 32 = 32, (e (List.replicate 32 (BitVec.ofNat 8 0)) == (0 : Int)) = true, ((↑(List.length (p (List.replicate 32 (BitVec.ofNat 8 0)))) : Int) == (32 : Int)) = true, (0 : Int) ≤ (0 : Int), 0 < List.length (p (List.replicate 32 (BitVec.ofNat 8 0))), 0 < List.length (p (List.replicate 32 (BitVec.ofNat 8 0))), (List.getD (p (List.replicate 32 (BitVec.ofNat 8 0))) 0 (BitVec.ofNat 8 0) == BitVec.ofNat 8 59) = true, (0 : Int) ≤ (1 : Int), 1 < List.length (p (List.replicate 32 (BitVec.ofNat 8 0))), 1 < List.length (p (List.replicate 32 (BitVec.ofNat 8 0))), (List.getD (p (List.replicate 32 (BitVec.ofNat 8 0))) 1 (BitVec.ofNat 8 0) == BitVec.ofNat 8 106) = true, List.length (p (List.replicate 32 (BitVec.ofNat 8 0))) = List.length (p (List.replicate 32 (BitVec.ofNat 8 0))), 0 ≤ 4000, (v (p (List.replicate 32 (BitVec.ofNat 8 0))) [] [] == (1 : Int)) = true]) := by kernel_rfl
def spTr : List AV → Option (AV × List Prop)
  | [] => some (sc (.bool true), [])
  | _ => none
theorem intT {n m : Int} (h : n = m) : (n == m) = true := by rw [h]; exact beq_self_eq_true m
theorem natT {n m : Nat} (h : n = m) : ((n : Int) == (m : Int)) = true := by rw [h]; exact beq_self_eq_true _
theorem bvT {n m : BitVec 8} (h : n = m) : (n == m) = true := by rw [h]; exact beq_self_eq_true m
theorem ctAw9 : CtSOk Tryd.prog 5 (.fn spTr) := FnS_of_fnS gsAw9 fol fun ds r cs h hc => by
  unfold spTr at h
  split at h
  case h_2 => simp at h
  simp only [Option.some.injEq, Prod.mk.injEq] at h
  obtain ⟨rfl, rfl⟩ := h
  obtain ⟨z0, z1, z2⟩ := pub_z0
  have zv := ver_z
  have r0 := runAw9 pubB eL verE
  refine use_run r0 rfl ?_
  clear r0
  have hz : List.replicate 32 (BitVec.ofNat 8 0) = z32 := rfl
  rw [hz]
  have he : eL z32 = 0 := by kernel_rfl
  generalize pubB z32 = k at *
  generalize eL z32 = e at *
  have h1 := intT he
  have h2 := natT (m := 32) z2
  have h3 := bvT z0
  have h4 := bvT z1
  have h5 := intT zv
  simp only [AllP]
  and_intros <;> first | exact True.intro | with_reducible assumption | with_reducible rfl | omega
def tblLw (p : BL → BL) (e : BL → Int) (v : BL → BL → BL → Int) (g : BL → BL → BL) : List (FuncId × CtS) :=
  (8, .fn (spPubG p e)) :: (9, .fn (spVerG v)) :: (6, .fn (spSigG g e)) :: (7, .fn spOwn9) :: (5, .fn spTr) :: []
theorem gsLw : GSound Tryd.prog (upG (lookG (tblLw pubB eL verE sgB))) := GSound_of_tbl ⟨⟨ctPub, by kernel_rfl⟩, ⟨ctVer, by kernel_rfl⟩, ⟨ctSig, by kernel_rfl⟩, ⟨ctOwn9, by kernel_rfl⟩, ⟨ctAw9, by kernel_rfl⟩, trivial⟩
end Go.Proofs.YtlgiaglbdifkpaaDoor
/- Layer 9's laws of the program alone, by contract. Own work. -/
namespace Go.Proofs.YtlgiaglbdifkpaaDoor
open Go.Ev Go.Sp Go.RowKit
set_option maxRecDepth 100000
theorem runBkA (p : BL → BL) (e : BL → Int) (v : BL → BL → BL → Int) (g : BL → BL → BL) (l b : BL) : fnS Tryd.prog (lookG (tblLw p e v g)) (orcA [(1, [(2, true)])]) [] 40 3 [sc (.d8 l), sc (.d8 b)] =
    some (sc (IV.bool true), [decide ((4000 : Int) < (↑(List.length b) : Int)) = true]) := by kernel_rfl
theorem runBkB (p : BL → BL) (e : BL → Int) (v : BL → BL → BL → Int) (g : BL → BL → BL) (l b : BL) : fnS Tryd.prog (lookG (tblLw p e v g)) (orcA [(1, [(2, false)]), (5, [(2, true)]), (6, [(1, true), (4, true), (9, true), (14, true)])]) [] 40 3 [sc (.d8 l), sc (.d8 b)] =
    some (sc (IV.bool true), [decide ((4000 : Int) < (↑(List.length b) : Int)) = false, List.length l = List.length l, List.length l ≤ 140737488355328, List.length b = List.length b, List.length b ≤ 140737488355328, List.length l = List.length l, List.length b = List.length b, List.length b ≤ 4000, List.length l = List.length l, List.length l ≤ 140737488355328, List.length l = List.length l, (!(↑(List.length l) : Int) == (32 : Int)) = true, (e l == (1 : Int)) = true, (e l == (1 : Int)) = true, ((↑(List.length (g l b)) : Int) == (0 : Int)) = true, ((↑(List.length (p l)) : Int) == (0 : Int)) = true]) := by kernel_rfl
theorem runBkC (p : BL → BL) (e : BL → Int) (v : BL → BL → BL → Int) (g : BL → BL → BL) (l b : BL) : fnS Tryd.prog (lookG (tblLw p e v g)) (orcP [(1, [(2, false)]), (5, [(2, false)]), (7, [(1, false), (4, false), (9, false), (14, false)]), (9, [(7, true), (17, true)])] [(9, [15])]) [] 40 3 [sc (.d8 l), sc (.d8 b)] =
    some (sc (IV.bool true), [decide ((4000 : Int) < (↑(List.length b) : Int)) = false, List.length l = List.length l, List.length l ≤ 140737488355328, List.length b = List.length b, List.length b ≤ 140737488355328, List.length l = List.length l, List.length b = List.length b, List.length b ≤ 4000, List.length l = List.length l, List.length l ≤ 140737488355328, List.length l = List.length l, (!(↑(List.length l) : Int) == (32 : Int)) = false, (!e l == (0 : Int)) = false, (!e l == (0 : Int)) = false, (!(↑(List.length (g l b)) : Int) == (64 : Int)) = false, (!(↑(List.length (p l)) : Int) == (32 : Int)) = false, List.length (p l) = List.length (p l), List.length (p l) ≤ 140737488355328, List.length b = List.length b, List.length b ≤ 140737488355328, List.length (g l b) = List.length (g l b), List.length (g l b) ≤ 140737488355328, List.length (p l) = List.length (p l), List.length b = List.length b, List.length (g l b) = List.length (g l b), List.length b ≤ 4000, (v (p l) b (g l b) == (0 : Int)) = true, List.length (p l) = List.length (p l), List.length (p l) ≤ 140737488355328, List.length b = List.length b, List.length b ≤ 140737488355328, (0 : Int) ≤ (63 : Int), 0 ≤ 63, 63 ≤ List.length (g l b), 63 ≤ List.length (g l b), (cutL (g l b) 0 63 (List.length (g l b))).length ≤ 140737488355328, List.length (p l) = List.length (p l), List.length b = List.length b, (cutL (g l b) 0 63 (List.length (g l b))).length = (cutL (g l b) 0 63 (List.length (g l b))).length, List.length b ≤ 4000, (v (p l) b (cutL (g l b) 0 63 (List.length (g l b))) == (1 : Int)) = true]) := by kernel_rfl
theorem runLoA (p : BL → BL) (e : BL → Int) (v : BL → BL → BL → Int) (g : BL → BL → BL) (l b o : BL) : fnS Tryd.prog (lookG (tblLw p e v g)) (orcA [(1, [(2, true)])]) [] 40 4 [sc (.d8 l), sc (.d8 b), sc (.d8 o)] =
    some (sc (IV.bool true), [decide ((4000 : Int) < (↑(List.length b) : Int)) = true]) := by kernel_rfl
theorem runLoB (p : BL → BL) (e : BL → Int) (v : BL → BL → BL → Int) (g : BL → BL → BL) (l b o : BL) : fnS Tryd.prog (lookG (tblLw p e v g)) (orcA [(1, [(2, false)]), (3, [(2, true)])]) [] 40 4 [sc (.d8 l), sc (.d8 b), sc (.d8 o)] =
    some (sc (IV.bool true), [decide ((4000 : Int) < (↑(List.length b) : Int)) = false, (!(↑(List.length l) : Int) == (32 : Int)) = true]) := by kernel_rfl
theorem runLoC (p : BL → BL) (e : BL → Int) (v : BL → BL → BL → Int) (g : BL → BL → BL) (l b o : BL) : fnS Tryd.prog (lookG (tblLw p e v g)) (orcA [(1, [(2, false)]), (3, [(2, false), (6, true)])]) [] 40 4 [sc (.d8 l), sc (.d8 b), sc (.d8 o)] =
    some (sc (IV.bool true), [decide ((4000 : Int) < (↑(List.length b) : Int)) = false, (!(↑(List.length l) : Int) == (32 : Int)) = false, (!(↑(List.length o) : Int) == (32 : Int)) = true]) := by kernel_rfl
theorem runLoT (p : BL → BL) (e : BL → Int) (v : BL → BL → BL → Int) (g : BL → BL → BL) (l b o : BL) : fnS Tryd.prog (lookG (tblLw p e v g)) (orcP [(1, [(2, false)]), (3, [(2, false), (6, false)]), (7, [(1, false), (4, false), (9, false)]), (10, [(5, true), (11, true), (12, true)])] [(9, [2]), (10, [10])]) [] 40 4 [sc (.d8 l), sc (.d8 b), sc (.d8 o)] =
    some (sc (IV.bool true), [decide ((4000 : Int) < (↑(List.length b) : Int)) = false, (!(↑(List.length l) : Int) == (32 : Int)) = false, (!(↑(List.length o) : Int) == (32 : Int)) = false, List.length l = List.length l, List.length l ≤ 140737488355328, List.length b = List.length b, List.length b ≤ 140737488355328, List.length l = List.length l, List.length b = List.length b, List.length b ≤ 4000, List.length l = List.length l, List.length l ≤ 140737488355328, List.length l = List.length l, (!e l == (0 : Int)) = false, (!e l == (0 : Int)) = false, (!(↑(List.length (g l b)) : Int) == (64 : Int)) = false, (0 : Int) ≤ (32 : Int), 0 ≤ 32, 32 ≤ List.length (g l b), 32 ≤ List.length (g l b), (cutL (g l b) 0 32 (List.length (g l b))).length ≤ 140737488355328, List.length o = List.length o, (cutL (g l b) 0 32 (List.length (g l b))).length = (cutL (g l b) 0 32 (List.length (g l b))).length, ((cutL (g l b) 0 32 (List.length (g l b))).length + List.length o) * 1 ≤ 140737488355328 ∧ (cutL (g l b) 0 32 (List.length (g l b))).length + List.length o ≤ 9223372036854775807, List.length b = List.length b, List.length b ≤ 140737488355328, List.length (p l) = List.length (p l), List.length b = List.length b, (cutL (g l b) 0 32 (List.length (g l b))).length + List.length o = (cutL (g l b) 0 32 (List.length (g l b)) ++ o).length, List.length b ≤ 4000, (v (p l) b (cutL (g l b) 0 32 (List.length (g l b)) ++ o) == (0 : Int)) = true, List.length o = List.length o, (0 : Int) ≤ (32 : Int), 32 ≤ List.length (g l b), List.length (g l b) ≤ List.length (g l b), 32 + (List.length (g l b) - 32) ≤ List.length (g l b), (o == cutL (g l b) 32 (List.length (g l b) - 32) (List.length (g l b))) = true, true = true]) := by kernel_rfl
theorem runLoF (p : BL → BL) (e : BL → Int) (v : BL → BL → BL → Int) (g : BL → BL → BL) (l b o : BL) : fnS Tryd.prog (lookG (tblLw p e v g)) (orcP [(1, [(2, false)]), (3, [(2, false), (6, false)]), (7, [(1, false), (4, false), (9, false)]), (10, [(5, false), (11, false), (12, true)])] [(9, [2]), (10, [10])]) [] 40 4 [sc (.d8 l), sc (.d8 b), sc (.d8 o)] =
    some (sc (IV.bool true), [decide ((4000 : Int) < (↑(List.length b) : Int)) = false, (!(↑(List.length l) : Int) == (32 : Int)) = false, (!(↑(List.length o) : Int) == (32 : Int)) = false, List.length l = List.length l, List.length l ≤ 140737488355328, List.length b = List.length b, List.length b ≤ 140737488355328, List.length l = List.length l, List.length b = List.length b, List.length b ≤ 4000, List.length l = List.length l, List.length l ≤ 140737488355328, List.length l = List.length l, (!e l == (0 : Int)) = false, (!e l == (0 : Int)) = false, (!(↑(List.length (g l b)) : Int) == (64 : Int)) = false, (0 : Int) ≤ (32 : Int), 0 ≤ 32, 32 ≤ List.length (g l b), 32 ≤ List.length (g l b), (cutL (g l b) 0 32 (List.length (g l b))).length ≤ 140737488355328, List.length o = List.length o, (cutL (g l b) 0 32 (List.length (g l b))).length = (cutL (g l b) 0 32 (List.length (g l b))).length, ((cutL (g l b) 0 32 (List.length (g l b))).length + List.length o) * 1 ≤ 140737488355328 ∧ (cutL (g l b) 0 32 (List.length (g l b))).length + List.length o ≤ 9223372036854775807, List.length b = List.length b, List.length b ≤ 140737488355328, List.length (p l) = List.length (p l), List.length b = List.length b, (cutL (g l b) 0 32 (List.length (g l b))).length + List.length o = (cutL (g l b) 0 32 (List.length (g l b)) ++ o).length, List.length b ≤ 4000, (v (p l) b (cutL (g l b) 0 32 (List.length (g l b)) ++ o) == (0 : Int)) = false, List.length o = List.length o, (0 : Int) ≤ (32 : Int), 32 ≤ List.length (g l b), List.length (g l b) ≤ List.length (g l b), 32 + (List.length (g l b) - 32) ≤ List.length (g l b), (o == cutL (g l b) 32 (List.length (g l b) - 32) (List.length (g l b))) = false, true = true]) := by kernel_rfl
theorem ltT {n : Nat} (h : 4000 < n) : decide ((4000 : Int) < (n : Int)) = true := decide_eq_true (by omega)
theorem ltF {n : Nat} (h : ¬ 4000 < n) : decide ((4000 : Int) < (n : Int)) = false := decide_eq_false (by omega)
def spLaw2 : List AV → Option (AV × List Prop)
  | [.val false [.d8 l], .val false [.d8 b]] => some (sc (.bool true), [l.length ≤ 140737488355328, b.length ≤ 140737488355328])
  | _ => none
def spLaw3 : List AV → Option (AV × List Prop)
  | [.val false [.d8 l], .val false [.d8 b], .val false [.d8 o]] => some (sc (.bool true), [l.length ≤ 140737488355328, b.length ≤ 140737488355328, o.length ≤ 140737488355328])
  | _ => none
theorem ctLawBk : CtSOk Tryd.prog 3 (.fn spLaw2) := FnS_of_fnS gsLw fol fun ds r cs h hc => by
  unfold spLaw2 at h
  split at h
  case h_2 => simp at h
  rename_i l b
  simp only [Option.some.injEq, Prod.mk.injEq] at h
  obtain ⟨rfl, rfl⟩ := h
  obtain ⟨hl, hb, _⟩ := hc
  by_cases h1 : 4000 < b.length
  · exact use_run (runBkA pubB eL verE sgB l b) rfl ⟨ltT h1, trivial⟩
  have b1 := ltF h1
  by_cases h2 : l.length = 32
  · have r0 := runBkC pubB eL verE sgB l b
    have g1 := sgB_len h2 b
    have g2 : (pubB l).length = 32 := by rw [pubB_eq h2, pB_len]
    have g3 : eL l = 0 := by rw [eL, if_pos h2]
    have g4 : verE (pubB l) b (sgB l b) = 0 := law_back h2
    have c1 : cutL (sgB l b) 0 63 (sgB l b).length = (sgB l b).take 63 := by rw [cutL_eq rfl, List.drop_zero]
    have g5 : ((sgB l b).take 63).length = 63 := by rw [List.length_take]; omega
    have g6 : verE (pubB l) b ((sgB l b).take 63) = 1 := by
      unfold verE
      rw [if_neg (by omega), if_pos (by omega)]
    rw [c1] at r0
    refine use_run r0 rfl ?_
    clear r0 c1
    generalize (sgB l b).take 63 = s3 at *
    generalize sgB l b = s at *
    generalize pubB l = k at *
    generalize eL l = e at *
    have n1 : (!((l.length : Int) == (32 : Int))) = false := lnF (m := 32) (by omega)
    have n2 : (!(e == (0 : Int))) = false := neF (by omega)
    have n3 : (!((s.length : Int) == (64 : Int))) = false := lnF (m := 64) (by omega)
    have n4 : (!((k.length : Int) == (32 : Int))) = false := lnF (m := 32) (by omega)
    have n5 := intT g4
    have n6 := intT g6
    simp only [AllP]
    and_intros <;> first | exact True.intro | with_reducible assumption | with_reducible rfl | omega
  · have r0 := runBkB pubB eL verE sgB l b
    have g1 : sgB l b = [] := by rw [sgB, if_neg h2]
    have g2 : pubB l = [] := by rw [pubB, if_neg h2]
    have g3 : eL l = 1 := by rw [eL, if_neg h2]
    refine use_run r0 rfl ?_
    clear r0
    have n1 : (!((l.length : Int) == (32 : Int))) = true := lnT (m := 32) h2
    have n2 := intT g3
    have n3 : (((sgB l b).length : Int) == (0 : Int)) = true := by rw [g1]; rfl
    have n4 : (((pubB l).length : Int) == (0 : Int)) = true := by rw [g2]; rfl
    clear g1 g2 g3
    simp only [AllP]
    and_intros <;> first | exact True.intro | with_reducible assumption | with_reducible rfl | omega
theorem ctLawOn : CtSOk Tryd.prog 4 (.fn spLaw3) := FnS_of_fnS gsLw fol fun ds r cs h hc => by
  unfold spLaw3 at h
  split at h
  case h_2 => simp at h
  rename_i l b o
  simp only [Option.some.injEq, Prod.mk.injEq] at h
  obtain ⟨rfl, rfl⟩ := h
  obtain ⟨hl, hb, ho, _⟩ := hc
  by_cases h1 : 4000 < b.length
  · exact use_run (runLoA pubB eL verE sgB l b o) rfl ⟨ltT h1, trivial⟩
  have b1 := ltF h1
  by_cases h2 : l.length = 32
  case neg => exact use_run (runLoB pubB eL verE sgB l b o) rfl ⟨b1, lnT (m := 32) h2, trivial⟩
  by_cases h3 : o.length = 32
  case neg => exact use_run (runLoC pubB eL verE sgB l b o) rfl ⟨b1, lnF (m := 32) (by omega), lnT (m := 32) h3, trivial⟩
  have g1 := sgB_len h2 b
  have gF := sgF_len l b
  have g2 : (pubB l).length = 32 := by rw [pubB_eq h2, pB_len]
  have g3 : eL l = 0 := by rw [eL, if_pos h2]
  have c1 : cutL (sgB l b) 0 32 (sgB l b).length = sgF l b := by rw [cutL_eq rfl, List.drop_zero, sgB, if_pos h2, List.take_left' gF]
  have c2 : cutL (sgB l b) 32 ((sgB l b).length - 32) (sgB l b).length = SBY (sgS l b) := by
    rw [cutL_eq rfl, List.take_of_length_le (by rw [List.length_drop]; omega), sgB, if_pos h2, List.drop_left' gF]
  have n1 : (!((l.length : Int) == (32 : Int))) = false := lnF (m := 32) (by omega)
  have n1' : (!((o.length : Int) == (32 : Int))) = false := lnF (m := 32) (by omega)
  have n2 : (!(eL l == (0 : Int))) = false := neF (by omega)
  have n3 : (!(((sgB l b).length : Int) == (64 : Int))) = false := lnF (m := 64) (by omega)
  have hlaw := law_one (b := b) h2 h3
  by_cases h4 : o = SBY (sgS l b)
  · have r0 := runLoT pubB eL verE sgB l b o
    rw [c1, c2] at r0
    refine use_run r0 rfl ?_
    clear r0 c1 c2
    have n4 := intT (hlaw.2 h4)
    have n5 : (o == SBY (sgS l b)) = true := by rw [beq_iff_eq]; exact h4
    clear hlaw
    simp only [AllP, List.length_append]
    and_intros <;> first | exact True.intro | with_reducible assumption | with_reducible rfl | omega
  · have r0 := runLoF pubB eL verE sgB l b o
    rw [c1, c2] at r0
    refine use_run r0 rfl ?_
    clear r0 c1 c2
    have n4 : (verE (pubB l) b (sgF l b ++ o) == (0 : Int)) = false := by
      rw [beq_eq_false_iff_ne]
      exact fun h => h4 (hlaw.1 h)
    have n5 : (o == SBY (sgS l b)) = false := by rw [beq_eq_false_iff_ne]; exact h4
    clear hlaw
    simp only [AllP, List.length_append]
    and_intros <;> first | exact True.intro | with_reducible assumption | with_reducible rfl | omega
end Go.Proofs.YtlgiaglbdifkpaaDoor
/- From a row's arguments to the evaluator's data, and from its result to the row. Own work; no statement of the seat is proved here. -/
namespace Go.Ev
open Go.ChangeShapes Go.WideShapes Go.RowKit

theorem trodAll_below {H : Type} {enc : TypeId × Value → H} {P : Program} (hl : laidOutB P = true) {W W' : World} (hb : Below W.heap.size W W') :
    ∀ (ts : List TypeId) (vs : List Value) (ds : List (DataW H)) (ps : List MemPlace), (∀ t ∈ ts, P.readableRec t = true ∧ t < P.types.size) → (∀ x ∈ ps, x.block < W.heap.size) →
      DataW.TrodAll enc P W 0 (fun _ => true) true ts vs ds ps → DataW.TrodAll enc P W' 0 (fun b => decide (b < W.heap.size)) true ts vs ds ps := by
  intro ts
  induction ts with
  | nil =>
    intro vs ds ps _ _ h
    obtain ⟨rfl, rfl, rfl⟩ := trodAll_nil h
    exact rfl
  | cons t ts ih =>
    intro vs ds ps hr hlt h
    obtain ⟨v, vs', d, ds', p, q, rfl, rfl, rfl, h1, h2⟩ := trodAll_cons h
    obtain ⟨r1, r2⟩ := hr t (List.mem_cons_self ..)
    exact ⟨p, q, Below.trod hl r1 r2 h1 hb (fun x hx => hlt x (List.mem_append_left _ hx)), ih vs' ds' q (fun t ht => hr t (List.mem_cons_of_mem _ ht)) (fun x hx => hlt x (List.mem_append_right _ hx)) h2, rfl⟩

/-- THE ROW: 'true; each argument reads as it did', of a call that only made memory. -/
theorem law_post {H : Type} {enc : TypeId × Value → H} {P : Program} {f : Func} {s : ChangeSpec} {W W' : World} {args : Array Value} {ds gs : List (DataW H)} {before : List MemPlace} {tb : TypeId}
    (hl : laidOutB P = true) (hr : ∀ t ∈ f.params.toList, P.readableRec t = true ∧ t < P.types.size) (hvars : s.vars = []) (hres : f.resultTypes = #[tb]) (htb : P.underlying tb = some .bool)
    (hW : DataW.Whole enc P f.params.toList s.vars false W args.toList ds gs before)
    (hsp : s.fn H (ds ++ gs) = { results := [.lit (.bool true)], args := ds }) (hb : Below W.heap.size W W') :
    s.post enc P f false true false false W args (.bool true) W' := by
  have hW' := hW
  obtain ⟨p, q, hA, hV, rfl, _, _⟩ := hW
  rw [hvars] at hV
  obtain ⟨rfl, rfl⟩ := trodVars_none hV
  rw [List.append_nil] at hsp hW'
  refine ⟨ds, [], _, [], p, [], hW', ?_, ?_, ?_, hb.frame _, fun h => by simp at h⟩
  · rw [List.append_nil, hsp, hres]
    exact ⟨[], [], ⟨1, by simp [DataW.trod, htb, Value.cells]⟩, rfl, rfl⟩
  · rw [List.append_nil, hsp]
    exact trodAll_below hl hb _ _ _ _ hr (fun x hx => by have := hW'.lt x hx; simpa using this) hA
  · rw [List.append_nil, hsp, hvars]
    exact rfl

/-! ### Arguments opened -/
section
variable {H : Type} {enc : TypeId × Value → H} {P : Program} {W : World} {t e : TypeId} {v : Value} {d : DataW H} {ps : List MemPlace} {base : Nat} {spare : Nat → Bool} {held : Bool}

theorem wf_u64 {n : Int} (h : (Lit.int .u64 n).wf = true) : ∃ x : BitVec 64, n = (x.toNat : Int) := by
  simp [Lit.wf, IntKind.min, IntKind.max, IntKind.signed, IntKind.bits] at h
  refine ⟨BitVec.ofNat 64 n.toNat, ?_⟩
  simp
  omega
theorem wf_u8 {n : Int} (h : (Lit.int .u8 n).wf = true) : ∃ x : BitVec 8, n = (x.toNat : Int) := by
  simp [Lit.wf, IntKind.min, IntKind.max, IntKind.signed, IntKind.bits] at h
  refine ⟨BitVec.ofNat 8 n.toNat, ?_⟩
  simp
  omega
theorem wf_u32 {n : Int} (h : (Lit.int .u32 n).wf = true) : ∃ x : BitVec 32, n = (x.toNat : Int) := by
  simp [Lit.wf, IntKind.min, IntKind.max, IntKind.signed, IntKind.bits] at h
  refine ⟨BitVec.ofNat 32 n.toNat, ?_⟩
  simp
  omega
theorem wf_u16 {n : Int} (h : (Lit.int .u16 n).wf = true) : 0 ≤ n ∧ n ≤ 65535 := by
  simp [Lit.wf, IntKind.min, IntKind.max, IntKind.signed, IntKind.bits] at h
  omega
theorem wf_i64 {n : Int} (h : (Lit.int .i64 n).wf = true) : -9223372036854775808 ≤ n ∧ n ≤ 9223372036854775807 := by
  simp [Lit.wf, IntKind.min, IntKind.max, IntKind.signed, IntKind.bits] at h
  omega

theorem open_i64 (ht : P.underlying t = some (.int .i64)) (hval : Value.okWide P W .any base t v) (hd : DataW.Trod enc P W 0 (fun _ => true) true t v d ps) :
    ∃ n : Int, DV W (sc (.i64 n)) v ∧ -9223372036854775808 ≤ n ∧ n ≤ 9223372036854775807 := by
  obtain ⟨n, rfl, _, _, hw⟩ := open_int ht hval hd
  exact ⟨n, ⟨[.int .i64 n], ⟨[.int .i64 n], [], rfl, rfl, rfl⟩, rfl⟩, wf_i64 hw⟩

theorem open_u64 (ht : P.underlying t = some (.int .u64)) (hval : Value.okWide P W .any base t v) (hd : DataW.Trod enc P W 0 (fun _ => true) true t v d ps) :
    ∃ x : BitVec 64, DV W (sc (.u64 x)) v := by
  obtain ⟨n, rfl, _, _, hw⟩ := open_int ht hval hd
  obtain ⟨x, rfl⟩ := wf_u64 hw
  exact ⟨x, ⟨[wordVal x], ⟨[wordVal x], [], rfl, rfl, rfl⟩, rfl⟩⟩

theorem open_u8 (ht : P.underlying t = some (.int .u8)) (hval : Value.okWide P W .any base t v) (hd : DataW.Trod enc P W 0 (fun _ => true) true t v d ps) :
    ∃ x : BitVec 8, DV W (sc (.u8 x)) v := by
  obtain ⟨n, rfl, _, _, hw⟩ := open_int ht hval hd
  obtain ⟨x, rfl⟩ := wf_u8 hw
  exact ⟨x, ⟨[byteVal x], ⟨[byteVal x], [], rfl, rfl, rfl⟩, rfl⟩⟩

theorem open_u16 (ht : P.underlying t = some (.int .u16)) (hval : Value.okWide P W .any base t v) (hd : DataW.Trod enc P W 0 (fun _ => true) true t v d ps) :
    ∃ x : BitVec 16, DV W (sc (.u16 x)) v := by
  obtain ⟨n, rfl, _, _, hw⟩ := open_int ht hval hd
  obtain ⟨h1, h2⟩ := wf_u16 hw
  refine ⟨BitVec.ofInt 16 n, ⟨_, ⟨_, [], rfl, rfl, rfl⟩, ?_⟩⟩
  have : ((BitVec.ofInt 16 n).toNat : Int) = n := by rw [BitVec.toNat_ofInt]; omega
  show [half16 _] = [_]
  simp only [half16, this]
theorem open_u32 (ht : P.underlying t = some (.int .u32)) (hval : Value.okWide P W .any base t v) (hd : DataW.Trod enc P W 0 (fun _ => true) true t v d ps) :
    ∃ x : BitVec 32, DV W (sc (.u32 x)) v := by
  obtain ⟨n, rfl, _, _, hw⟩ := open_int ht hval hd
  obtain ⟨x, rfl⟩ := wf_u32 hw
  exact ⟨x, ⟨[w32Val x], ⟨[w32Val x], [], rfl, rfl, rfl⟩, rfl⟩⟩

/-- An array of integers: its cells. -/
theorem open_arr {n : Nat} {k : IntKind} (ht : P.underlying t = some (.array n e)) (he : P.underlying e = some (.int k)) (hce : P.cellsOf e = 1) (hct : P.cellsOf t = n)
    (hval : Value.okWide P W .any base t v) (hd : DataW.Trod enc P W 0 (fun _ => true) true t v d ps) :
    ∃ zs : List Int, v = .agg (zs.map (Value.int k)).toArray ∧ zs.length = n ∧ ∀ z ∈ zs, (Lit.int k z).wf = true := by
  have hv : ∃ cs, v = .agg cs := by
    simp only [Value.okWide, ht] at hval
    obtain ⟨cs, hcs, _⟩ := hval
    exact ⟨cs, hcs⟩
  obtain ⟨cs, rfl⟩ := hv
  obtain ⟨fuel, hf⟩ := hd
  obtain ⟨xs, m, _, _, hl, hn, hx⟩ := DataW.trod_array ht hf
  have hl' : cs.toList.length = n := by rw [← hct]; exact hl
  have hcell : ∀ i, i < n → ∃ z, cs.toList[i]? = some (.int k z) ∧ (Lit.int k z).wf = true := by
    intro i hi
    have := hx i hi
    rw [hce, Nat.mul_one] at this
    have hxi : ∃ y, xs[i]? = some y := ⟨xs[i], List.getElem?_eq_getElem (by omega)⟩
    obtain ⟨y, hy⟩ := hxi
    rw [hy] at this
    obtain ⟨z, hz, _, hw⟩ := DataW.trod_int he this
    refine ⟨z, ?_, hw⟩
    have h1 : ((Value.agg cs).cells.toList.drop i).take 1 = [.int k z] := hz
    have h2 : (((Value.agg cs).cells.toList.drop i).take 1)[0]? = some (.int k z) := by rw [h1]; rfl
    rw [List.getElem?_take, List.getElem?_drop] at h2
    simpa [Value.cells] using h2
  have gen : ∀ (l : List Value), (∀ i, i < l.length → ∃ z, l[i]? = some (.int k z) ∧ (Lit.int k z).wf = true) → ∃ zs : List Int, l = zs.map (Value.int k) ∧ ∀ z ∈ zs, (Lit.int k z).wf = true := by
    intro l
    induction l with
    | nil => intro _; exact ⟨[], rfl, by simp⟩
    | cons a l ih =>
      intro h
      obtain ⟨zs, h1, h2⟩ := ih fun i hi => by have := h (i + 1) (by simpa using hi); simpa using this
      obtain ⟨z, hz, hw⟩ := h 0 (by simp)
      simp at hz
      refine ⟨z :: zs, by simp [h1, hz], fun y hy => ?_⟩
      rcases List.mem_cons.1 hy with rfl | hy
      · exact hw
      · exact h2 y hy
  obtain ⟨zs, h1, h2⟩ := gen cs.toList fun i hi => hcell i (by omega)
  refine ⟨zs, ?_, ?_, h2⟩
  · rw [← h1]
  · have := congrArg List.length h1
    simp at this
    have h3 : cs.toList.length = cs.size := by simp
    omega

theorem words_of {zs : List Int} (h : ∀ z ∈ zs, (Lit.int .u64 z).wf = true) : ∃ l : List (BitVec 64), zs.map (Value.int .u64) = l.map wordVal ∧ l.length = zs.length := by
  induction zs with
  | nil => exact ⟨[], rfl, rfl⟩
  | cons z zs ih =>
    obtain ⟨l, h1, h2⟩ := ih fun y hy => h y (List.mem_cons_of_mem _ hy)
    obtain ⟨x, hx⟩ := wf_u64 (h z (List.mem_cons_self ..))
    exact ⟨x :: l, by simp [h1, hx, wordVal], by simp [h2]⟩
theorem bytes_of {zs : List Int} (h : ∀ z ∈ zs, (Lit.int .u8 z).wf = true) : ∃ l : List (BitVec 8), zs.map (Value.int .u8) = l.map byteVal ∧ l.length = zs.length := by
  induction zs with
  | nil => exact ⟨[], rfl, rfl⟩
  | cons z zs ih =>
    obtain ⟨l, h1, h2⟩ := ih fun y hy => h y (List.mem_cons_of_mem _ hy)
    obtain ⟨x, hx⟩ := wf_u8 (h z (List.mem_cons_self ..))
    exact ⟨x :: l, by simp [h1, hx, byteVal], by simp [h2]⟩

theorem words32_of {zs : List Int} (h : ∀ z ∈ zs, (Lit.int .u32 z).wf = true) : ∃ l : List (BitVec 32), zs.map (Value.int .u32) = l.map w32Val ∧ l.length = zs.length := by
  induction zs with
  | nil => exact ⟨[], rfl, rfl⟩
  | cons z zs ih =>
    obtain ⟨l, h1, h2⟩ := ih fun y hy => h y (List.mem_cons_of_mem _ hy)
    obtain ⟨x, hx⟩ := wf_u32 (h z (List.mem_cons_self ..))
    exact ⟨x :: l, by simp [h1, hx, w32Val], by simp [h2]⟩

theorem DLs_u64s : ∀ l : List (BitVec 64), DLs W (l.map IV.u64) (l.map wordVal)
  | [] => rfl
  | x :: l => ⟨[wordVal x], l.map wordVal, rfl, rfl, DLs_u64s l⟩

theorem open_num (ht : P.underlying t = some (.array 4 e)) (he : P.underlying e = some (.int .u64)) (hce : P.cellsOf e = 1) (hct : P.cellsOf t = 4)
    (hval : Value.okWide P W .any base t v) (hd : DataW.Trod enc P W 0 (fun _ => true) true t v d ps) : ∃ a : N4, DV W (.val true [.n4 a]) v := by
  obtain ⟨zs, rfl, hn, hw⟩ := open_arr ht he hce hct hval hd
  obtain ⟨l, h1, h2⟩ := words_of hw
  rw [h1]
  match l, h2.trans hn with
  | [a, b, c, d], _ => exact ⟨⟨a, b, c, d⟩, _, ⟨_, [], (List.append_nil _).symm, rfl, rfl⟩, rfl⟩
theorem open_u64s {n : Nat} (ht : P.underlying t = some (.array n e)) (he : P.underlying e = some (.int .u64)) (hce : P.cellsOf e = 1) (hct : P.cellsOf t = n)
    (hval : Value.okWide P W .any base t v) (hd : DataW.Trod enc P W 0 (fun _ => true) true t v d ps) : ∃ l : List (BitVec 64), l.length = n ∧ DV W (.val true (l.map IV.u64)) v := by
  obtain ⟨zs, rfl, hn, hw⟩ := open_arr ht he hce hct hval hd
  obtain ⟨l, h1, h2⟩ := words_of hw
  rw [h1]
  exact ⟨l, h2.trans hn, _, DLs_u64s l, rfl⟩
theorem open_u8s {n : Nat} (ht : P.underlying t = some (.array n e)) (he : P.underlying e = some (.int .u8)) (hce : P.cellsOf e = 1) (hct : P.cellsOf t = n)
    (hval : Value.okWide P W .any base t v) (hd : DataW.Trod enc P W 0 (fun _ => true) true t v d ps) : ∃ l : List (BitVec 8), l.length = n ∧ DV W (.val true [.v8 n l]) v := by
  obtain ⟨zs, rfl, hn, hw⟩ := open_arr ht he hce hct hval hd
  obtain ⟨l, h1, h2⟩ := bytes_of hw
  rw [h1]
  exact ⟨l, h2.trans hn, _, ⟨_, [], (List.append_nil _).symm, by simp [DCells, PCells, h2, hn], rfl⟩, rfl⟩

theorem open_u32s {n : Nat} (ht : P.underlying t = some (.array n e)) (he : P.underlying e = some (.int .u32)) (hce : P.cellsOf e = 1) (hct : P.cellsOf t = n)
    (hval : Value.okWide P W .any base t v) (hd : DataW.Trod enc P W 0 (fun _ => true) true t v d ps) : ∃ l : List (BitVec 32), l.length = n ∧ DV W (.val true [.v32 n l]) v := by
  obtain ⟨zs, rfl, hn, hw⟩ := open_arr ht he hce hct hval hd
  obtain ⟨l, h1, h2⟩ := words32_of hw
  rw [h1]
  exact ⟨l, h2.trans hn, _, ⟨_, [], (List.append_nil _).symm, by simp [DCells, PCells, h2, hn], rfl⟩, rfl⟩

theorem cell_addr {a : Addr} {u : Value} (h : W.cell? a = some u) : a.block < W.heap.size ∧ a.spot = none := by
  unfold World.cell? at h
  split at h
  case h_2 => simp at h
  rename_i hb
  refine ⟨(Array.getElem?_eq_some_iff.1 hb).1, ?_⟩
  cases hs : a.spot with
  | none => rfl
  | some x => simp [hs] at h

/-- Bytes. -/
theorem open_d8 (ht : P.underlying t = some (.slice e)) (he : P.underlying e = some (.int .u8)) (hce : P.cellsOf e = 1) (hby : P.bytesOf e = 1)
    (hval : Value.okWide P W .any base t v) (hd : DataW.Trod enc P W 0 (fun _ => true) true t v d ps) : ∃ l : List (BitVec 8), DV W (sc (.d8 l)) v ∧ (∀ N, (∀ x ∈ d.weights P t, x ≤ N) → l.length ≤ N) ∧ (l = [] ∨ ∃ elems spare, d = .slice elems spare ∧ l.length ≤ elems.length) := by
  obtain ⟨a1, len, cap, rfl⟩ := okWide_slice ht hval
  obtain ⟨fuel, hf⟩ := hd
  rcases open_ints ht he hce hf with ⟨hcs, hx⟩ | ⟨a, len', cap', zs, hcs, _, hl, hm, hz, hx, hcell, hwz⟩
  · simp [Value.cells] at hcs
    obtain ⟨rfl, rfl, rfl⟩ := hcs
    exact ⟨[], ⟨[.slice none 0 0], ⟨_, [], rfl, ⟨_, rfl, .inr ⟨rfl, rfl, none, rfl⟩⟩, rfl⟩, rfl⟩, fun N _ => by simp, .inl rfl⟩
  · simp [Value.cells] at hcs
    obtain ⟨rfl, rfl, rfl⟩ := hcs
    simp at hz
    obtain ⟨l, h1, h2⟩ := bytes_of hwz
    have hlen : (l.take len).length = len := by simp; omega
    have hmax : maxLen = 9223372036854775807 := rfl
    have hcell0 : ∀ i u, ((l.take len).map byteVal)[i]? = some u → W.cell? (a.add i) = some u := by
      intro i u hu
      rw [List.getElem?_map, List.getElem?_take] at hu
      split at hu
      case isFalse => simp at hu
      have hi : i < zs.length := by omega
      rw [hcell i hi]
      have hg : (zs.map (Value.int .u8))[i]? = (l.map byteVal)[i]? := by rw [h1]
      rw [List.getElem?_map, List.getElem?_map, List.getElem?_eq_getElem hi] at hg
      rw [← List.getElem?_map] at hu
      simp only [List.getElem?_map] at hu
      rw [← hg] at hu
      simp at hu
      subst hu
      simp [List.getD, List.getElem?_eq_getElem hi]
    refine ⟨l.take len, ⟨[_], ⟨[_], [], rfl, ⟨_, rfl, ?_⟩, rfl⟩, rfl⟩, fun N hN => ?_, ?_⟩
    case refine_3 =>
      simp only [Prod.mk.injEq] at hx
      obtain ⟨rfl, rfl⟩ := hx
      exact .inr ⟨_, _, rfl, by simp [lits]; omega⟩
    case refine_2 =>
      simp only [Prod.mk.injEq] at hx
      obtain ⟨rfl, rfl⟩ := hx
      have h3 := hN (((lits (H := H) .u8 (zs.take len)).length + (lits (H := H) .u8 (zs.drop len)).length) * P.bytesOf e) (by simp [DataW.weights, ht])
      simp only [hby, Nat.mul_one, lits, List.length_map, List.length_take, List.length_drop] at h3
      omega
    rw [hlen]
    by_cases h0 : cap = 0
    · subst h0
      have : len = 0 := by omega
      subst this
      exact .inr ⟨rfl, by simp, some a, rfl⟩
    · have hc0 := hcell 0 (by omega)
      obtain ⟨hb, hs⟩ := cell_addr hc0
      obtain ⟨blk, off, sub⟩ := a
      simp [Addr.add] at hb hs
      subst hs
      exact .inl ⟨blk, off, cap, rfl, hl, hb, fun i u hu => (congrArg W.cell? (Addr_add_at blk off i)).symm.trans (hcell0 i u hu)⟩

/-- Four cells of a number. -/
theorem num_cells {t e : TypeId} {fuel : Nat} {cs : List Value} {x : DataW H × List MemPlace} (ht : P.underlying t = some (.array 4 e)) (he : P.underlying e = some (.int .u64)) (hce : P.cellsOf e = 1) (hct : P.cellsOf t = 4)
    (hf : DataW.trod enc P W base spare held fuel t cs = some x) : ∃ a : N4, cs = n4Vals a := by
  obtain ⟨xs, m, _, _, hl, hn, hx⟩ := DataW.trod_array ht hf
  rw [hct] at hl
  have cell : ∀ i, i < 4 → ∃ y : BitVec 64, cs[i]? = some (wordVal y) := by
    intro i hi
    have := hx i hi
    rw [hce, Nat.mul_one] at this
    obtain ⟨y, hy⟩ : ∃ y, xs[i]? = some y := ⟨xs[i], List.getElem?_eq_getElem (by omega)⟩
    rw [hy] at this
    obtain ⟨z, hz, _, hw⟩ := DataW.trod_int he this
    obtain ⟨q, hq⟩ := wf_u64 hw
    refine ⟨q, ?_⟩
    have h2 : ((cs.drop i).take 1)[0]? = some (.int .u64 z) := by rw [hz]; rfl
    rw [List.getElem?_take, List.getElem?_drop] at h2
    rw [hq] at h2
    simpa [wordVal] using h2
  match cs, hl with
  | [c0, c1, c2, c3], _ =>
    obtain ⟨x0, h0⟩ := cell 0 (by omega)
    obtain ⟨x1, h1⟩ := cell 1 (by omega)
    obtain ⟨x2, h2⟩ := cell 2 (by omega)
    obtain ⟨x3, h3⟩ := cell 3 (by omega)
    simp at h0 h1 h2 h3
    exact ⟨⟨x0, x1, x2, x3⟩, by rw [h0, h1, h2, h3]; rfl⟩
/-- Numbers, one behind the other. -/
theorem open_dn {e0 : TypeId} (ht : P.underlying t = some (.slice e)) (he : P.underlying e = some (.array 4 e0)) (he0 : P.underlying e0 = some (.int .u64)) (hce0 : P.cellsOf e0 = 1) (hce : P.cellsOf e = 4)
    (hval : Value.okWide P W .any base t v) (hd : DataW.Trod enc P W 0 (fun _ => true) true t v d ps) : ∃ l : List N4, DV W (sc (.dn l)) v ∧ (l = [] ∨ ∃ elems spare, d = .slice elems spare ∧ l.length ≤ elems.length) := by
  obtain ⟨a1, len, cap, rfl⟩ := okWide_slice ht hval
  obtain ⟨fuel, hf⟩ := hd
  rcases DataW.trod_slice ht hf with ⟨hcs, hx⟩ | ⟨a, len', cap', elems, rest, n, _, hcs, hx, _, hl, hm, hlen, hel, hsp, _⟩
  · simp [Value.cells] at hcs
    obtain ⟨rfl, rfl, rfl⟩ := hcs
    exact ⟨[], ⟨[.slice none 0 0], ⟨_, [], rfl, ⟨_, rfl, .inr ⟨rfl, rfl, none, rfl⟩⟩, rfl⟩, rfl⟩, .inl rfl⟩
  · simp [Value.cells] at hcs
    obtain ⟨rfl, rfl, rfl⟩ := hcs
    obtain ⟨hrl, hr⟩ := hsp rfl
    have one : ∀ i y, (W.cells? 0 (a.add (i * P.cellsOf e)) (P.cellsOf e)).bind (DataW.trod enc P W 0 (fun _ => true) true n e) = some y → ∃ y : N4, ∀ j, j < 4 → W.cell? ((a.add (i * 4)).add j) = some (wordVal (y.get j)) := by
      intro i y h1
      rw [hce, Option.bind_eq_some_iff] at h1
      obtain ⟨cs, h2, h3⟩ := h1
      obtain ⟨y, rfl⟩ := num_cells he he0 hce0 hce h3
      obtain ⟨_, h4, h5⟩ := World.cells?_some h2
      exact ⟨y, fun j hj => (h5 j hj).trans (n4_get y j hj)⟩
    have each : ∀ i, i < len → ∃ y : N4, ∀ j, j < 4 → W.cell? ((a.add (i * 4)).add j) = some (wordVal (y.get j)) := fun i hi => by
      have h1 := hel i hi
      rw [List.getElem?_eq_getElem (by omega)] at h1
      exact one i _ h1
    have all : ∀ m, m ≤ len → ∃ l : List N4, l.length = m ∧ ∀ i, i < m → ∀ j, j < 4 → W.cell? ((a.add (i * 4)).add j) = some (wordVal ((l.getD i N4.zero).get j)) := by
      intro m
      induction m with
      | zero => intro _; exact ⟨[], rfl, fun i hi => by omega⟩
      | succ m ih =>
        intro hm'
        obtain ⟨l, h1, h2⟩ := ih (by omega)
        obtain ⟨y, hy⟩ := each m (by omega)
        refine ⟨l ++ [y], by simp [h1], fun i hi j hj => ?_⟩
        by_cases e : i = m
        · subst e
          have : (l ++ [y]).getD i N4.zero = y := by simp [List.getD_eq_getElem?_getD, ← h1]
          rw [this]; exact hy j hj
        · have : (l ++ [y]).getD i N4.zero = l.getD i N4.zero := by
            rw [List.getD_eq_getElem?_getD, List.getD_eq_getElem?_getD, List.getElem?_append_left (by omega)]
          rw [this]; exact h2 i (by omega) j hj
    obtain ⟨l, hll, hcell⟩ := all len (Nat.le_refl _)
    refine ⟨l, ⟨[_], ⟨[_], [], rfl, ⟨_, rfl, ?_⟩, rfl⟩, rfl⟩, ?_⟩
    case refine_2 =>
      simp only [Prod.mk.injEq] at hx
      obtain ⟨rfl, rfl⟩ := hx
      exact .inr ⟨_, _, rfl, by simp [hll, hlen]⟩
    rw [hll]
    by_cases h0 : cap = 0
    · subst h0
      have : len = 0 := by omega
      subst this
      have : l = [] := List.eq_nil_of_length_eq_zero hll
      subst this
      exact .inr ⟨rfl, rfl, some a, rfl⟩
    · have hfirst : ∃ y : N4, ∀ j, j < 4 → W.cell? ((a.add (0 * 4)).add j) = some (wordVal (y.get j)) := by
        by_cases h1 : 0 < len
        · exact each 0 h1
        · have h2 := hr 0 (by omega)
          have h3 : len + 0 = 0 := by omega
          rw [h3, List.getElem?_eq_getElem (by omega)] at h2
          exact one 0 _ h2
      obtain ⟨y, hy⟩ := hfirst
      obtain ⟨hb, hs⟩ := cell_addr (hy 0 (by omega))
      obtain ⟨blk, off, sub⟩ := a
      simp [Addr.add] at hb hs
      subst hs
      refine .inl ⟨blk, off, cap, rfl, hl, hb, fun i u hu => ?_⟩
      have hi : i < 4 * l.length := by
        have := (List.getElem?_eq_some_iff.1 hu).1
        have h4 : (l.flatMap n4Vals).length = 4 * l.length := by
          have := PCells_length (i := .vn l.length l) (vs := l.flatMap n4Vals) (by simp [PCells])
          simpa [IV.size] using this
        omega
      rw [flat_get l i hi] at hu
      simp at hu
      subst hu
      have h5 := hcell (i / 4) (by omega) (i % 4) (Nat.mod_lt _ (by omega))
      rw [Addr_add_at, Addr_add_at] at h5
      have h6 : off + i / 4 * 4 + i % 4 = off + i := by omega
      rw [h6] at h5
      simpa using h5
end
end Go.Ev
/- What the rows of this layer share: the listed variables hold what the evaluator takes them to hold. Own work; no statement of the seat is proved here. -/
namespace Go.Proofs.YtlgiaglbdifkpaaDoor
open Go.Ev Go.ChangeShapes Go.WideShapes Go.RowKit
set_option maxRecDepth 100000
theorem own : ownKnob Tryd.prog.godebug = none := by kernel_rfl
theorem laidOut : laidOutB Tryd.prog = true := by kernel_rfl
theorem resBool {B : Nat} {w : World} {v : Value} {b : Bool} (h : ResOk B w (sc (.bool b)) v) : v = .bool b := by
  obtain ⟨ρ, _, _, h1, _⟩ := h 0
  have := VRepr_sc.1 h1
  simp [ICells, PCells] at this
  exact this.symm
def laid2 : List (String × DataW Unit) := [("sealwax/sha.great", Rows.laid_sealwax_sha_great), ("sealwax/sha.k512", Rows.laid_sealwax_sha_k512)]
theorem gGreat : Tryd.prog.globalNamed "sealwax/sha.great" = some 0 := by kernel_rfl
theorem gK512 : Tryd.prog.globalNamed "sealwax/sha.k512" = some 1 := by kernel_rfl
theorem tGreat : (Tryd.prog.globals[0]?).map (·.type) = some 82 := by kernel_rfl
theorem tK512 : (Tryd.prog.globals[1]?).map (·.type) = some 92 := by kernel_rfl
theorem door_met (os : Os) (args : Array Value) : laidMetH Tryd.prog laid2 ((World.doorLaid Tryd.prog 400 os).forCall (fun _ _ => 0) ⟨#[], args, []⟩).memory :=
  laidMetH_of_parts3 (fuel := 8) (laidMet_of_run' 8 (by kernel_rfl) (by kernel_rfl)) (by kernel_rfl) (by kernel_rfl)
def fldsOf (P : Program) (t : TypeId) : Option (List (TypeId × Nat)) :=
  match P.underlying t with
  | some (.struct fs) => some (fs.toList.map fun f => (f.type, f.offset))
  | _ => none
theorem fldsOf_ok {P : Program} {t : TypeId} {l : List (TypeId × Nat)} (h : fldsOf P t = some l) : ∃ fs : Array Field, P.underlying t = some (.struct fs) ∧ fs.size = l.length ∧
    ∀ (i : Nat) (ty : TypeId) (o : Nat), l[i]? = some (ty, o) → ∃ f, fs[i]? = some f ∧ f.type = ty ∧ f.offset = o := by
  unfold fldsOf at h
  split at h
  case h_2 => simp at h
  rename_i fs hfs
  simp only [Option.some.injEq] at h
  subst h
  refine ⟨fs, hfs, by simp, fun i ty o hi => ?_⟩
  rw [List.getElem?_map, Option.map_eq_some_iff] at hi
  obtain ⟨f, h1, h2⟩ := hi
  simp only [Prod.mk.injEq] at h2
  exact ⟨f, by simpa using h1, h2.1, h2.2⟩
theorem great_cells {W : World} {fuel : Nat} {cs : List Value} {p : List MemPlace} (h : DataW.trod (fun _ => ()) Tryd.prog W 0 (fun _ => true) false fuel 82 cs = some (Rows.laid_sealwax_sha_great, p)) :
    cs = [64, 80, 28, 34, 39, 14, 18, 41, 1, 8, 7, 19, 61, 6].map intVal := by
  obtain ⟨fs, hu, hsz, hfl⟩ := fldsOf_ok (P := Tryd.prog) (t := 82) (l := [(3, 0), (3, 1), (80, 2), (80, 5), (80, 8), (80, 11)]) (by kernel_rfl)
  obtain ⟨xs, n, _, hx, hl, hn, hf⟩ := DataW.trod_struct hu h
  rw [hsz] at hn
  have hl14 : cs.length = 14 := by rw [hl]; kernel_rfl
  have ci : Tryd.prog.cellsOf 3 = 1 := by kernel_rfl
  have ca : Tryd.prog.cellsOf 80 = 3 := by kernel_rfl
  have ui : Tryd.prog.underlying 3 = some (.int .i64) := by kernel_rfl
  have ua : Tryd.prog.underlying 80 = some (.array 3 3) := by kernel_rfl
  match cs, hl14 with
  | [c0, c1, c2, c3, c4, c5, c6, c7, c8, c9, c10, c11, c12, c13], _ =>
  match xs, hn with
  | [x0, x1, x2, x3, x4, x5], _ =>
  simp only [Prod.mk.injEq, Rows.laid_sealwax_sha_great, DataW.agg.injEq, List.map_cons, List.map_nil, List.cons.injEq, and_true] at hx
  obtain ⟨⟨e0, e1, e2, e3, e4, e5⟩, _⟩ := hx
  have hi : ∀ (i o : Nat) (x : DataW Unit × List MemPlace) (k : Int), [(3, 0), (3, 1), (80, 2), (80, 5), (80, 8), (80, 11)][i]? = some (3, o) → [x0, x1, x2, x3, x4, x5][i]? = some x → .lit (.int .i64 k) = x.1 →
      ([c0, c1, c2, c3, c4, c5, c6, c7, c8, c9, c10, c11, c12, c13].drop o).take 1 = [Value.int .i64 k] := fun i o x k h1 h2 h3 => by
    obtain ⟨f, hf1, hf2, hf3⟩ := hfl i _ _ h1
    have h4 := hf i f hf1
    rw [hf2, hf3, ci, h2] at h4
    obtain ⟨z, h5, h6, _⟩ := DataW.trod_int ui h4
    rw [h6] at h3
    simp only [DataW.lit.injEq, Lit.int.injEq, true_and] at h3
    rw [h5, h3]
  have ha : ∀ (i o : Nat) (x : DataW Unit × List MemPlace) (zs : List Int), [(3, 0), (3, 1), (80, 2), (80, 5), (80, 8), (80, 11)][i]? = some (80, o) → [x0, x1, x2, x3, x4, x5][i]? = some x → Lib.tabData .i64 zs = x.1 →
      ([c0, c1, c2, c3, c4, c5, c6, c7, c8, c9, c10, c11, c12, c13].drop o).take 3 = zs.map fun z => Value.int .i64 z := fun i o x zs h1 h2 h3 => by
    obtain ⟨f, hf1, hf2, hf3⟩ := hfl i _ _ h1
    have h4 := hf i f hf1
    rw [hf2, hf3, ca, h2, show x = (Lib.tabData .i64 zs, x.2) from Prod.ext h3.symm rfl] at h4
    exact Lib.cells_of_tab ua ui ci ca h4
  have q0 := hi 0 0 x0 64 rfl rfl e0
  have q1 := hi 1 1 x1 80 rfl rfl e1
  have q2 := ha 2 2 x2 [28, 34, 39] rfl rfl e2
  have q3 := ha 3 5 x3 [14, 18, 41] rfl rfl e3
  have q4 := ha 4 8 x4 [1, 8, 7] rfl rfl e4
  have q5 := ha 5 11 x5 [19, 61, 6] rfl rfl e5
  simp only [List.drop_zero, List.drop_succ_cons, List.take_succ_cons, List.take_zero, List.map_cons, List.map_nil, List.cons.injEq, and_true] at q0 q1 q2 q3 q4 q5
  obtain ⟨q6, q7, q8⟩ := q2
  obtain ⟨q9, q10, q11⟩ := q3
  obtain ⟨q12, q13, q14⟩ := q4
  obtain ⟨q15, q16, q17⟩ := q5
  subst q0 q1 q6 q7 q8 q9 q10 q11 q12 q13 q14 q15 q16 q17
  rfl
def k512Z : List Int := k512L.map fun x => (x.toNat : Int)
theorem laidK : (Rows.laid_sealwax_sha_k512 : DataW Unit) = Lib.tabData .u64 k512Z := by kernel_rfl
theorem of_laid {W : World} (h : laidMetH Tryd.prog laid2 W) : GlobOk W := by
  rw [MakeChecks.laidMetH_plain _ _ _ (by kernel_rfl)] at h
  obtain ⟨ps, ⟨g0, t0, cs0, f0, p0, q0, hg0, ht0, hv0, hd0, ⟨g1, t1, cs1, f1, p1, q1, hg1, ht1, hv1, hd1, _, _⟩, _⟩, _, _⟩ := h
  obtain rfl := Option.some.inj (gGreat.symm.trans hg0)
  obtain rfl := Option.some.inj (gK512.symm.trans hg1)
  obtain rfl := Option.some.inj (tGreat.symm.trans ht0)
  obtain rfl := Option.some.inj (tK512.symm.trans ht1)
  have c0 := great_cells hd0
  rw [laidK] at hd1
  have c1 := Lib.cells_of_tab (n := 80) (e := 32) (by kernel_rfl) (by kernel_rfl) (by kernel_rfl) (by kernel_rfl) hd1
  intro g items hg
  by_cases e0 : g = 0
  · subst e0
    have hi : items = greatL := (Option.some.inj (show some greatL = some items from hg)).symm
    subst hi
    refine ⟨cs0.toList, fun ρ => ?_, fun i v hv => ?_⟩
    · rw [c0]
      exact ⟨[intVal 64], _, rfl, rfl, [intVal 80], _, rfl, rfl, [intVal 28, intVal 34, intVal 39], _, rfl, rfl, [intVal 14, intVal 18, intVal 41], _, rfl, rfl, [intVal 1, intVal 8, intVal 7], _, rfl, rfl, [intVal 19, intVal 61, intVal 6], _, rfl, rfl, rfl⟩
    · rw [World.var?_cell gGreat hv0 i]
      simpa using hv
  · by_cases e1 : g = 1
    · subst e1
      have hi : items = [.v64 80 k512L] := (Option.some.inj (show some [IV.v64 80 k512L] = some items from hg)).symm
      subst hi
      refine ⟨cs1.toList, fun ρ => ?_, fun i v hv => ?_⟩
      · rw [c1]
        refine ⟨k512L.map wordVal, [], by simp [k512Z, wordVal, Function.comp_def], ?_, rfl⟩
        show PCells (.v64 80 k512L) = _
        rw [PCells, if_pos (by kernel_rfl)]
      · rw [World.var?_cell gK512 hv1 i]
        simpa using hv
    · exfalso
      have he : globAt globT g = (if 0 = g then some greatL else if 1 = g then some [.v64 80 k512L] else none) := rfl
      rw [he, if_neg (fun h => e0 h.symm), if_neg (fun h => e1 h.symm)] at hg
      cases hg
end Go.Proofs.YtlgiaglbdifkpaaDoor
/- What stands ahead of the rows of seat D. Own work; no statement of the seat is proved here. -/
