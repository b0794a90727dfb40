/- PROVED: sealwaxlaw10.StreamBegins answers true for every key, nonce, counter, bytes and place, and each argument reads behind the call as it read before. Conditions: none. Own work. -/
import Derived.Test.YtclngijinhcdpaaRsKit
namespace Go.Proofs.Ytclngijinhcdpaa
open Go.Ev Go.Sp Go.ChangeShapes Go.WideShapes Go.RowKit
set_option maxRecDepth 100000
theorem runLaw (k n : List (BitVec 8)) (c : BitVec 32) (b : List (BitVec 8)) (a : BitVec 16) : fnS Try.prog (lookG tblX) (orcP [(1, [(3, false)]), (4, [(1, false)]), (6, [(5, false)]), (10, [(1, false), (9, false)]), (13, [(4, false)]), (16, [(1, true), (9, true)])] [(9, [12]), (10, [8]), (15, [16]), (16, [8])]) [] 10 7 [.val true [.d8 k, .d8 n, .u32 c, .d8 b], sc (.u16 a)] =
    some (sc (IV.bool true), [decide ((4000 : Int) < (↑b.length : Int)) = false, k.length = k.length, k.length ≤ 140737488351232, n.length = n.length, n.length ≤ 140737488351232, b.length = b.length, b.length ≤ 140737488351232, k.length = k.length, n.length = n.length, b.length = b.length, b.length ≤ 4000, (!(xorV k n c b).snd == (0 : Int)) = false, (!(↑(xorV k n c b).fst.length : Int) == (↑b.length : Int)) = false, inI64 ((↑b.length : Int) + (1 : Int)), (↑b.length : Int) + (1 : Int) ≠ (0 : Int), k.length = k.length, k.length ≤ 140737488351232, n.length = n.length, n.length ≤ 140737488351232, (0 : Int) ≤ (↑a.toNat : Int).tmod ((↑b.length : Int) + (1 : Int)), 0 ≤ ((↑a.toNat : Int).tmod ((↑b.length : Int) + (1 : Int))).toNat, ((↑a.toNat : Int).tmod ((↑b.length : Int) + (1 : Int))).toNat ≤ b.length, 0 + (((↑a.toNat : Int).tmod ((↑b.length : Int) + (1 : Int))).toNat - 0) ≤ b.length, (cutL b 0 (((↑a.toNat : Int).tmod ((↑b.length : Int) + (1 : Int))).toNat - 0) b.length).length ≤ 140737488351232, k.length = k.length, n.length = n.length, (cutL b 0 (((↑a.toNat : Int).tmod ((↑b.length : Int) + (1 : Int))).toNat - 0) b.length).length = (cutL b 0 (((↑a.toNat : Int).tmod ((↑b.length : Int) + (1 : Int))).toNat - 0) b.length).length, (cutL b 0 (((↑a.toNat : Int).tmod ((↑b.length : Int) + (1 : Int))).toNat - 0) b.length).length ≤ 4000, (!(xorV k n c (cutL b 0 (((↑a.toNat : Int).tmod ((↑b.length : Int) + (1 : Int))).toNat - 0) b.length)).snd == (0 : Int)) = false, (xorV k n c (cutL b 0 (((↑a.toNat : Int).tmod ((↑b.length : Int) + (1 : Int))).toNat - 0) b.length)).fst.length = (xorV k n c (cutL b 0 (((↑a.toNat : Int).tmod ((↑b.length : Int) + (1 : Int))).toNat - 0) b.length)).fst.length, (0 : Int) ≤ (↑a.toNat : Int).tmod ((↑b.length : Int) + (1 : Int)), 0 ≤ ((↑a.toNat : Int).tmod ((↑b.length : Int) + (1 : Int))).toNat, ((↑a.toNat : Int).tmod ((↑b.length : Int) + (1 : Int))).toNat ≤ (xorV k n c b).fst.length, 0 + (((↑a.toNat : Int).tmod ((↑b.length : Int) + (1 : Int))).toNat - 0) ≤ (xorV k n c b).fst.length, (!(xorV k n c (cutL b 0 (((↑a.toNat : Int).tmod ((↑b.length : Int) + (1 : Int))).toNat - 0) b.length)).fst == cutL (xorV k n c b).fst 0 (((↑a.toNat : Int).tmod ((↑b.length : Int) + (1 : Int))).toNat - 0) (xorV k n c b).fst.length) = false, (64 : Int) ≠ (0 : Int), inI64 ((↑a.toNat : Int).tmod ((↑b.length : Int) + (1 : Int)) - ((↑a.toNat : Int).tmod ((↑b.length : Int) + (1 : Int))).tmod (64 : Int)), ((↑a.toNat : Int).tmod ((↑b.length : Int) + (1 : Int)) - ((↑a.toNat : Int).tmod ((↑b.length : Int) + (1 : Int))).tmod (64 : Int) == (↑b.length : Int)) = false, k.length = k.length, k.length ≤ 140737488351232, n.length = n.length, n.length ≤ 140737488351232, (64 : Int) ≠ (0 : Int), inI64 (((↑a.toNat : Int).tmod ((↑b.length : Int) + (1 : Int)) - ((↑a.toNat : Int).tmod ((↑b.length : Int) + (1 : Int))).tmod (64 : Int)).tdiv (64 : Int)), (0 : Int) ≤ (↑a.toNat : Int).tmod ((↑b.length : Int) + (1 : Int)) - ((↑a.toNat : Int).tmod ((↑b.length : Int) + (1 : Int))).tmod (64 : Int), ((↑a.toNat : Int).tmod ((↑b.length : Int) + (1 : Int)) - ((↑a.toNat : Int).tmod ((↑b.length : Int) + (1 : Int))).tmod (64 : Int)).toNat ≤ b.length, b.length ≤ b.length, 0 + ((↑a.toNat : Int).tmod ((↑b.length : Int) + (1 : Int)) - ((↑a.toNat : Int).tmod ((↑b.length : Int) + (1 : Int))).tmod (64 : Int)).toNat + (b.length - ((↑a.toNat : Int).tmod ((↑b.length : Int) + (1 : Int)) - ((↑a.toNat : Int).tmod ((↑b.length : Int) + (1 : Int))).tmod (64 : Int)).toNat) ≤ b.length, (cutL b (0 + ((↑a.toNat : Int).tmod ((↑b.length : Int) + (1 : Int)) - ((↑a.toNat : Int).tmod ((↑b.length : Int) + (1 : Int))).tmod (64 : Int)).toNat) (b.length - ((↑a.toNat : Int).tmod ((↑b.length : Int) + (1 : Int)) - ((↑a.toNat : Int).tmod ((↑b.length : Int) + (1 : Int))).tmod (64 : Int)).toNat) b.length).length ≤ 140737488351232, k.length = k.length, n.length = n.length, (cutL b (0 + ((↑a.toNat : Int).tmod ((↑b.length : Int) + (1 : Int)) - ((↑a.toNat : Int).tmod ((↑b.length : Int) + (1 : Int))).tmod (64 : Int)).toNat) (b.length - ((↑a.toNat : Int).tmod ((↑b.length : Int) + (1 : Int)) - ((↑a.toNat : Int).tmod ((↑b.length : Int) + (1 : Int))).tmod (64 : Int)).toNat) b.length).length = (cutL b (0 + ((↑a.toNat : Int).tmod ((↑b.length : Int) + (1 : Int)) - ((↑a.toNat : Int).tmod ((↑b.length : Int) + (1 : Int))).tmod (64 : Int)).toNat) (b.length - ((↑a.toNat : Int).tmod ((↑b.length : Int) + (1 : Int)) - ((↑a.toNat : Int).tmod ((↑b.length : Int) + (1 : Int))).tmod (64 : Int)).toNat) b.length).length, (cutL b (0 + ((↑a.toNat : Int).tmod ((↑b.length : Int) + (1 : Int)) - ((↑a.toNat : Int).tmod ((↑b.length : Int) + (1 : Int))).tmod (64 : Int)).toNat) (b.length - ((↑a.toNat : Int).tmod ((↑b.length : Int) + (1 : Int)) - ((↑a.toNat : Int).tmod ((↑b.length : Int) + (1 : Int))).tmod (64 : Int)).toNat) b.length).length ≤ 4000, ((xorV k n (c + BitVec.ofInt 32 (((↑a.toNat : Int).tmod ((↑b.length : Int) + (1 : Int)) - ((↑a.toNat : Int).tmod ((↑b.length : Int) + (1 : Int))).tmod (64 : Int)).tdiv (64 : Int))) (cutL b (0 + ((↑a.toNat : Int).tmod ((↑b.length : Int) + (1 : Int)) - ((↑a.toNat : Int).tmod ((↑b.length : Int) + (1 : Int))).tmod (64 : Int)).toNat) (b.length - ((↑a.toNat : Int).tmod ((↑b.length : Int) + (1 : Int)) - ((↑a.toNat : Int).tmod ((↑b.length : Int) + (1 : Int))).tmod (64 : Int)).toNat) b.length)).snd == (0 : Int)) = true, (xorV k n (c + BitVec.ofInt 32 (((↑a.toNat : Int).tmod ((↑b.length : Int) + (1 : Int)) - ((↑a.toNat : Int).tmod ((↑b.length : Int) + (1 : Int))).tmod (64 : Int)).tdiv (64 : Int))) (cutL b (0 + ((↑a.toNat : Int).tmod ((↑b.length : Int) + (1 : Int)) - ((↑a.toNat : Int).tmod ((↑b.length : Int) + (1 : Int))).tmod (64 : Int)).toNat) (b.length - ((↑a.toNat : Int).tmod ((↑b.length : Int) + (1 : Int)) - ((↑a.toNat : Int).tmod ((↑b.length : Int) + (1 : Int))).tmod (64 : Int)).toNat) b.length)).fst.length = (xorV k n (c + BitVec.ofInt 32 (((↑a.toNat : Int).tmod ((↑b.length : Int) + (1 : Int)) - ((↑a.toNat : Int).tmod ((↑b.length : Int) + (1 : Int))).tmod (64 : Int)).tdiv (64 : Int))) (cutL b (0 + ((↑a.toNat : Int).tmod ((↑b.length : Int) + (1 : Int)) - ((↑a.toNat : Int).tmod ((↑b.length : Int) + (1 : Int))).tmod (64 : Int)).toNat) (b.length - ((↑a.toNat : Int).tmod ((↑b.length : Int) + (1 : Int)) - ((↑a.toNat : Int).tmod ((↑b.length : Int) + (1 : Int))).tmod (64 : Int)).toNat) b.length)).fst.length, (0 : Int) ≤ (↑a.toNat : Int).tmod ((↑b.length : Int) + (1 : Int)) - ((↑a.toNat : Int).tmod ((↑b.length : Int) + (1 : Int))).tmod (64 : Int), ((↑a.toNat : Int).tmod ((↑b.length : Int) + (1 : Int)) - ((↑a.toNat : Int).tmod ((↑b.length : Int) + (1 : Int))).tmod (64 : Int)).toNat ≤ (xorV k n c b).fst.length, (xorV k n c b).fst.length ≤ (xorV k n c b).fst.length, 0 + ((↑a.toNat : Int).tmod ((↑b.length : Int) + (1 : Int)) - ((↑a.toNat : Int).tmod ((↑b.length : Int) + (1 : Int))).tmod (64 : Int)).toNat + ((xorV k n c b).fst.length - ((↑a.toNat : Int).tmod ((↑b.length : Int) + (1 : Int)) - ((↑a.toNat : Int).tmod ((↑b.length : Int) + (1 : Int))).tmod (64 : Int)).toNat) ≤ (xorV k n c b).fst.length, ((xorV k n (c + BitVec.ofInt 32 (((↑a.toNat : Int).tmod ((↑b.length : Int) + (1 : Int)) - ((↑a.toNat : Int).tmod ((↑b.length : Int) + (1 : Int))).tmod (64 : Int)).tdiv (64 : Int))) (cutL b (0 + ((↑a.toNat : Int).tmod ((↑b.length : Int) + (1 : Int)) - ((↑a.toNat : Int).tmod ((↑b.length : Int) + (1 : Int))).tmod (64 : Int)).toNat) (b.length - ((↑a.toNat : Int).tmod ((↑b.length : Int) + (1 : Int)) - ((↑a.toNat : Int).tmod ((↑b.length : Int) + (1 : Int))).tmod (64 : Int)).toNat) b.length)).fst == cutL (xorV k n c b).fst (0 + ((↑a.toNat : Int).tmod ((↑b.length : Int) + (1 : Int)) - ((↑a.toNat : Int).tmod ((↑b.length : Int) + (1 : Int))).tmod (64 : Int)).toNat) ((xorV k n c b).fst.length - ((↑a.toNat : Int).tmod ((↑b.length : Int) + (1 : Int)) - ((↑a.toNat : Int).tmod ((↑b.length : Int) + (1 : Int))).tmod (64 : Int)).toNat) (xorV k n c b).fst.length) = true]) := by kernel_rfl
theorem runLaw0 (k n : List (BitVec 8)) (c : BitVec 32) (b : List (BitVec 8)) (a : BitVec 16) : fnS Try.prog (lookG tblX) (orcP [(1, [(3, false)]), (4, [(1, false)]), (6, [(5, false)]), (10, [(1, false), (9, false)]), (13, [(4, true)])] [(9, [12]), (10, [8])]) [] 10 7 [.val true [.d8 k, .d8 n, .u32 c, .d8 b], sc (.u16 a)] =
    some (sc (IV.bool true), [decide ((4000 : Int) < (↑b.length : Int)) = false, k.length = k.length, k.length ≤ 140737488351232, n.length = n.length, n.length ≤ 140737488351232, b.length = b.length, b.length ≤ 140737488351232, k.length = k.length, n.length = n.length, b.length = b.length, b.length ≤ 4000, (!(xorV k n c b).snd == (0 : Int)) = false, (!(↑(xorV k n c b).fst.length : Int) == (↑b.length : Int)) = false, inI64 ((↑b.length : Int) + (1 : Int)), (↑b.length : Int) + (1 : Int) ≠ (0 : Int), k.length = k.length, k.length ≤ 140737488351232, n.length = n.length, n.length ≤ 140737488351232, (0 : Int) ≤ (↑a.toNat : Int).tmod ((↑b.length : Int) + (1 : Int)), 0 ≤ ((↑a.toNat : Int).tmod ((↑b.length : Int) + (1 : Int))).toNat, ((↑a.toNat : Int).tmod ((↑b.length : Int) + (1 : Int))).toNat ≤ b.length, 0 + (((↑a.toNat : Int).tmod ((↑b.length : Int) + (1 : Int))).toNat - 0) ≤ b.length, (cutL b 0 (((↑a.toNat : Int).tmod ((↑b.length : Int) + (1 : Int))).toNat - 0) b.length).length ≤ 140737488351232, k.length = k.length, n.length = n.length, (cutL b 0 (((↑a.toNat : Int).tmod ((↑b.length : Int) + (1 : Int))).toNat - 0) b.length).length = (cutL b 0 (((↑a.toNat : Int).tmod ((↑b.length : Int) + (1 : Int))).toNat - 0) b.length).length, (cutL b 0 (((↑a.toNat : Int).tmod ((↑b.length : Int) + (1 : Int))).toNat - 0) b.length).length ≤ 4000, (!(xorV k n c (cutL b 0 (((↑a.toNat : Int).tmod ((↑b.length : Int) + (1 : Int))).toNat - 0) b.length)).snd == (0 : Int)) = false, (xorV k n c (cutL b 0 (((↑a.toNat : Int).tmod ((↑b.length : Int) + (1 : Int))).toNat - 0) b.length)).fst.length = (xorV k n c (cutL b 0 (((↑a.toNat : Int).tmod ((↑b.length : Int) + (1 : Int))).toNat - 0) b.length)).fst.length, (0 : Int) ≤ (↑a.toNat : Int).tmod ((↑b.length : Int) + (1 : Int)), 0 ≤ ((↑a.toNat : Int).tmod ((↑b.length : Int) + (1 : Int))).toNat, ((↑a.toNat : Int).tmod ((↑b.length : Int) + (1 : Int))).toNat ≤ (xorV k n c b).fst.length, 0 + (((↑a.toNat : Int).tmod ((↑b.length : Int) + (1 : Int))).toNat - 0) ≤ (xorV k n c b).fst.length, (!(xorV k n c (cutL b 0 (((↑a.toNat : Int).tmod ((↑b.length : Int) + (1 : Int))).toNat - 0) b.length)).fst == cutL (xorV k n c b).fst 0 (((↑a.toNat : Int).tmod ((↑b.length : Int) + (1 : Int))).toNat - 0) (xorV k n c b).fst.length) = false, (64 : Int) ≠ (0 : Int), inI64 ((↑a.toNat : Int).tmod ((↑b.length : Int) + (1 : Int)) - ((↑a.toNat : Int).tmod ((↑b.length : Int) + (1 : Int))).tmod (64 : Int)), ((↑a.toNat : Int).tmod ((↑b.length : Int) + (1 : Int)) - ((↑a.toNat : Int).tmod ((↑b.length : Int) + (1 : Int))).tmod (64 : Int) == (↑b.length : Int)) = true]) := by kernel_rfl
theorem runLaw1 (k n : List (BitVec 8)) (c : BitVec 32) (b : List (BitVec 8)) (a : BitVec 16) : fnS Try.prog (lookG tblX) (orcA [(1, [(3, true)])]) [] 10 7 [.val true [.d8 k, .d8 n, .u32 c, .d8 b], sc (.u16 a)] =
    some (sc (IV.bool true), [decide ((4000 : Int) < (↑b.length : Int)) = true]) := by kernel_rfl
theorem runLaw2 (k n : List (BitVec 8)) (c : BitVec 32) (b : List (BitVec 8)) (a : BitVec 16) : fnS Try.prog (lookG tblX) (orcA [(1, [(3, false)]), (4, [(1, true)]), (5, [(2, true)])]) [] 10 7 [.val true [.d8 k, .d8 n, .u32 c, .d8 b], sc (.u16 a)] =
    some (sc (IV.bool true), [decide ((4000 : Int) < (↑b.length : Int)) = false, k.length = k.length, k.length ≤ 140737488351232, n.length = n.length, n.length ≤ 140737488351232, b.length = b.length, b.length ≤ 140737488351232, k.length = k.length, n.length = n.length, b.length = b.length, b.length ≤ 4000, (!(xorV k n c b).snd == (0 : Int)) = true, ((↑(xorV k n c b).fst.length : Int) == (0 : Int)) = true]) := by kernel_rfl
theorem getD_take (l : List (BitVec 8)) (q i : Nat) (h : i < q) : (l.take q).getD i 0#8 = l.getD i 0#8 := by
  rw [List.getD_eq_getElem?_getD, List.getD_eq_getElem?_getD, List.getElem?_take_of_lt h]
theorem getD_drop (l : List (BitVec 8)) (q i : Nat) : (l.drop q).getD i 0#8 = l.getD (q + i) 0#8 := by
  rw [List.getD_eq_getElem?_getD, List.getD_eq_getElem?_getD, List.getElem?_drop]
theorem xor_take (k n : List (BitVec 8)) (c : BitVec 32) (b : List (BitVec 8)) (q : Nat) : xorL k n c (b.take q) = (xorL k n c b).take q := by
  refine ext_getD 0#8 (by rw [List.length_take, xorL_len, xorL_len, List.length_take]) fun i hi => ?_
  rw [xorL_len, List.length_take] at hi
  rw [getD_take _ _ _ (by omega), xorL, getD_map_range _ _ _ (by rw [List.length_take]; exact hi), xorL, getD_map_range _ _ _ (by omega), getD_take _ _ _ (by omega)]
theorem ks_shift (k n : List (BitVec 8)) (c : BitVec 32) (r i : Nat) (h : r % 64 = 0) : ksB k n (c + BitVec.ofNat 32 (r / 64)) i = ksB k n c (r + i) := by
  have e1 : (r + i) / 64 = r / 64 + i / 64 := by omega
  have e2 : (r + i) % 64 = i % 64 := by omega
  unfold ksB
  rw [e1, e2, BitVec.add_assoc, ← BitVec.ofNat_add]
theorem xor_drop (k n : List (BitVec 8)) (c : BitVec 32) (b : List (BitVec 8)) (r : Nat) (h : r % 64 = 0) : xorL k n (c + BitVec.ofNat 32 (r / 64)) (b.drop r) = (xorL k n c b).drop r := by
  refine ext_getD 0#8 (by rw [List.length_drop, xorL_len, xorL_len, List.length_drop]) fun i hi => ?_
  rw [xorL_len, List.length_drop] at hi
  rw [getD_drop, xorL, getD_map_range _ _ _ (by rw [List.length_drop]; exact hi), xorL, getD_map_range _ _ _ (by omega), getD_drop]
  rw [ks_shift k n c r i h]
theorem law (k n : List (BitVec 8)) (c : BitVec 32) (b : List (BitVec 8)) (lk : k.length ≤ reachBytes) (ln : n.length ≤ reachBytes) (_lb : b.length ≤ reachBytes) (a : BitVec 16) (w : World) (vals : List Value) (hv : F2 (DV w) [.val true [.d8 k, .d8 n, .u32 c, .d8 b], sc (.u16 a)] vals) :
    Calls Try.prog 7 vals.toArray w fun e w' => ∃ v, e = .returned v ∧ Below w.heap.size w w' ∧ ResOk w.heap.size w' (sc (.bool true)) v := by
  have hkB : k.length ≤ 140737488351232 := lk
  have hnB : n.length ≤ 140737488351232 := ln
  by_cases hb : b.length ≤ 4000
  · have bad : ∀ e, xorV k n c b = ([], e) → e ≠ 0 → Calls Try.prog 7 vals.toArray w fun e w' => ∃ v, e = .returned v ∧ Below w.heap.size w w' ∧ ResOk w.heap.size w' (sc (.bool true)) v := by
      intro e he hne
      refine calls_of_fnS gsX fol (runLaw2 k n c b a) ?_ w vals hv
      simp only [AllP, he]
      and_intros <;> first | exact True.intro | with_reducible rfl | rfl | exact beq_self_eq_true _ | exact decide_eq_false (by omega) | exact neqB hne | omega
    by_cases h : k.length = 32 ∧ n.length = 12
    · by_cases h2 : c.toNat + nBl b ≤ 4294967296
      · have e1 : xorV k n c b = (xorL k n c b, 0) := by rw [xorV, if_pos h, if_pos h2]
        have e3 := xorL_len k n c b
        obtain ⟨q, hq⟩ : ∃ q, q = a.toNat % (b.length + 1) := ⟨_, rfl⟩
        have hqle : q ≤ b.length := by have := Nat.mod_lt a.toNat (show 0 < b.length + 1 by omega); omega
        have m1 : ((a.toNat : Nat) : Int).tmod ((b.length : Int) + (1 : Int)) = (q : Int) := by
          rw [show (b.length : Int) + 1 = ((b.length + 1 : Nat) : Int) by omega, ← Int.ofNat_tmod, ← hq]
        obtain ⟨r, hr⟩ : ∃ r, r = q - q % 64 := ⟨_, rfl⟩
        have hr64 : r % 64 = 0 := by omega
        have hrq : r ≤ q := by omega
        have m2 : (q : Int) - ((q % 64 : Nat) : Int) = (r : Int) := by omega
        have t1 : cutL b 0 (q - 0) b.length = b.take q := by rw [cutL_eq rfl]; rfl
        have t2 : cutL (xorL k n c b) 0 (q - 0) (xorL k n c b).length = (xorL k n c b).take q := by rw [cutL_eq rfl]; rfl
        have t3 : cutL b (0 + r) (b.length - r) b.length = b.drop r := by rw [cutL_eq rfl, Nat.zero_add, List.take_of_length_le (by simp)]
        have t4 : cutL (xorL k n c b) (0 + r) ((xorL k n c b).length - r) (xorL k n c b).length = (xorL k n c b).drop r := by rw [cutL_eq rfl, Nat.zero_add, List.take_of_length_le (by simp)]
        have lt : (b.take q).length = q := by rw [List.length_take]; omega
        have ld : (b.drop r).length = b.length - r := List.length_drop
        have e4 : xorV k n c (b.take q) = ((xorL k n c b).take q, 0) := by
          rw [xorV, if_pos h, if_pos (by unfold nBl at *; rw [lt]; omega), xor_take]
        have nb : ∀ l : List (BitVec 8), (!(l == l)) = false := fun l => by simp
        by_cases hrb : r = b.length
        · have r0 := runLaw0 k n c b a
          simp only [m1, tmod64, m2, Int.toNat_natCast, e1, e3] at r0
          rw [e3] at t2
          rw [t1, t2, e4] at r0
          refine calls_of_fnS gsX fol r0 ?_ w vals hv
          simp only [AllP, inI64, lt]
          and_intros <;> first | exact True.intro | with_reducible rfl | exact beq_self_eq_true _ | exact nb _ | exact decide_eq_false (by omega) | exact neqF (by omega) | omega | (rw [beq_iff_eq]; omega)
        · have r0 := runLaw k n c b a
          simp only [m1, tmod64, m2, tdiv64, ofInt32, Int.toNat_natCast, e1, e3] at r0
          rw [e3] at t2 t4
          have e5 : xorV k n (c + BitVec.ofNat 32 (r / 64)) (b.drop r) = ((xorL k n c b).drop r, 0) := by
            have hcl := c.isLt
            have : (c + BitVec.ofNat 32 (r / 64)).toNat = c.toNat + r / 64 := by
              rw [BitVec.toNat_add, BitVec.toNat_ofNat]
              unfold nBl at h2
              omega
            rw [xorV, if_pos h, if_pos (by unfold nBl at *; rw [this, ld]; omega), xor_drop _ _ _ _ _ hr64]
          rw [t1, t2, t3, t4, e4, e5] at r0
          refine calls_of_fnS gsX fol r0 ?_ w vals hv
          simp only [AllP, inI64, lt, ld]
          and_intros <;> first | exact True.intro | with_reducible rfl | exact beq_self_eq_true _ | exact nb _ | exact decide_eq_false (by omega) | exact neqF (by omega) | omega | (rw [beq_eq_false_iff_ne]; omega)
      · exact bad 2 (by rw [xorV, if_pos h, if_neg h2]) (by omega)
    · exact bad 1 (by rw [xorV, if_neg h]) (by omega)
  · refine calls_of_fnS gsX fol (runLaw1 k n c b a) ?_ w vals hv
    simp only [AllP]
    and_intros <;> first | exact True.intro | rfl | exact decide_eq_true (by omega)
theorem streamBeginsLifted (os : Os) (started : os.Started) (H : Type) (enc : TypeId × Value → H) :
    ReturnsInHanded {} Try.checked os 7 .any (Rows.streamBeginsSpec.pre6 enc Try.prog Try.f7 Rows.streamBeginsRow.domain false) (Rows.streamBeginsSpec.post enc Try.prog Try.f7 false true false false) := by
  refine returnsInHanded_of_change_sized (C := Try.checked) own started (by kernel_rfl) Try.func7
    (ChangeSpec.witness6 (enc := enc) (C := Try.checked) false ⟨#[], #[.agg #[.slice none 0 0, .slice none 0 0, .int .u32 0, .slice none 0 0], .int .u16 0], []⟩ 8 (by kernel_rfl) (by kernel_rfl) (by kernel_rfl) (by kernel_rfl)) ?_
  intro W base args ds gs before hval0 hW hcnd hsz _
  have hval : ∀ (j : Nat) t v, Try.f7.params[j]? = some t → args[j]? = some v → Value.okWide Try.prog W .any base t v := hval0
  have hW' := hW
  obtain ⟨p, q, hA0, hV, rfl, hfz, hnd⟩ := hW
  have hA : DataW.TrodAll enc Try.prog W 0 (fun _ => true) true Try.f7.params.toList args.toList ds p := hA0
  rw [Try.params7] at hA hval
  obtain ⟨v0, v1, d0, d1, p0, p1, rfl, rfl, rfl, h0, h1⟩ := trodAll_two hA
  obtain ⟨rfl, rfl⟩ := trodVars_none hV
  obtain ⟨k0, n0, c0, b0, e0, lk0, ln0, lb0⟩ := openSealed (N := reachBytes) (hval 0 _ v0 rfl rfl) h0 fun x hx => of_decide_eq_true (List.all_eq_true.1 hsz x (DataW.weights_mem_each (j := 0) rfl rfl x hx))
  obtain ⟨a1, e1⟩ := open_u16 (by kernel_rfl) (hval 1 _ v1 rfl rfl) h1
  refine (law k0 n0 c0 b0 lk0 ln0 lb0 a1 W [v0, v1] ⟨e0, e1, trivial⟩).mono fun e W' ⟨v, he, hbelow, hres⟩ => ⟨v, he, ?_⟩
  rw [resBool hres]
  exact law_post laidOut (by rw [Try.params7]; exact of_decide_eq_true (by kernel_rfl)) rfl rfl (tb := 4) (by kernel_rfl) hW' rfl hbelow

theorem streamBegins_holds : Rows.StreamBeginsSaid :=
  OpenClaim.holds_of_wide 7 Try.f7 rfl rfl rfl rfl rfl rfl rfl ⟨rfl, rfl, rfl, rfl, rfl⟩ rfl rfl rfl rfl rfl (by kernel_rfl) Try.func7 (by kernel_rfl)
    (of_decide_eq_true (by kernel_rfl)) (by unfold Func.isWrapper; first | (rw [if_pos (by decide +kernel)]; kernel_rfl) | (rw [if_neg (by decide +kernel)]; exact ⟨rfl, rfl⟩))
    (fun os started H enc _ => streamBeginsLifted os started H enc)

end Go.Proofs.Ytclngijinhcdpaa
