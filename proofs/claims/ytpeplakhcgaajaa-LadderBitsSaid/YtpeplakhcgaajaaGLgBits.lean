/- PROVED: sealwaxlaw05.LadderBits answers true for every argument, and each argument reads behind the call as it read before. Conditions: none. Own work. -/
import Derived.Test.YtpeplakhcgaajaaMgat
namespace Go.Proofs.Ytpeplakhcgaajaa
open Go.Ev Go.Sp Go.ChangeShapes Go.WideShapes Go.RowKit
set_option maxRecDepth 100000
theorem runLaw (f g : BL → BL → BL × Int) (k u : BL) (lo hi : BitVec 8) : fnS Try.prog (lookG (tblXL f g)) (orcA [(1, [(2, false), (6, false)]), (10, [(1, true), (4, true), (9, true), (16, true)])]) [] 10 6 [sc (.d8 k), sc (.d8 u), sc (.u8 lo), sc (.u8 hi)] =
    some (sc (IV.bool true), [(!(↑(List.length k) : Int) == (32 : Int)) = false, (!(↑(List.length u) : Int) == (32 : Int)) = false, List.length k = List.length k, List.length k ≤ 140737488351232, List.length u = List.length u, List.length u ≤ 140737488351232, List.length k = List.length k, List.length u = List.length u, List.length k = List.length k, List.length k ≤ 140737488351232, List.length u = List.length u, List.length u ≤ 140737488351232, (0 : Int) ≤ (0 : Int), 0 < List.length k, 0 < List.length k, (0 : Int) ≤ (0 : Int), 0 < List.length k, 0 < List.length k, (0 : Int) ≤ (31 : Int), 31 < List.length k, 31 < List.length k, (0 : Int) ≤ (31 : Int), 31 < List.length k, 31 < List.length k, (0 : Int) ≤ (31 : Int), 31 < List.length u, 31 < List.length u, (0 : Int) ≤ (31 : Int), 31 < List.length u, 31 < List.length u, List.length k = List.length k, List.length u = List.length u, ((f k u).snd == (0 : Int)) = true, ((f ((List.set k (0 + Int.toNat (0 : Int) * (fun x => x.size) Try.prog.types[5]) (List.getD k (0 + Int.toNat (0 : Int) * (fun x => x.size) Try.prog.types[5]) (0 : BitVec 8) ^^^ lo &&& BitVec.ofInt 8 (7 : Int))).set (0 + Int.toNat (31 : Int) * (fun x => x.size) Try.prog.types[5]) ((List.set k (0 + Int.toNat (0 : Int) * (fun x => x.size) Try.prog.types[5]) (List.getD k (0 + Int.toNat (0 : Int) * (fun x => x.size) Try.prog.types[5]) (0 : BitVec 8) ^^^ lo &&& BitVec.ofInt 8 (7 : Int))).getD (0 + Int.toNat (31 : Int) * (fun x => x.size) Try.prog.types[5]) (0 : BitVec 8) ^^^ hi &&& BitVec.ofInt 8 (192 : Int))) (List.set u (0 + Int.toNat (31 : Int) * (fun x => x.size) Try.prog.types[5]) (List.getD u (0 + Int.toNat (31 : Int) * (fun x => x.size) Try.prog.types[5]) (0 : BitVec 8) ^^^ lo &&& BitVec.ofInt 8 (128 : Int)))).snd == (0 : Int)) = true, ((↑(List.length (f k u).fst) : Int) == (32 : Int)) = true, List.length (f k u).fst = List.length (f k u).fst, List.length (f ((List.set k (0 + Int.toNat (0 : Int) * (fun x => x.size) Try.prog.types[5]) (List.getD k (0 + Int.toNat (0 : Int) * (fun x => x.size) Try.prog.types[5]) (0 : BitVec 8) ^^^ lo &&& BitVec.ofInt 8 (7 : Int))).set (0 + Int.toNat (31 : Int) * (fun x => x.size) Try.prog.types[5]) ((List.set k (0 + Int.toNat (0 : Int) * (fun x => x.size) Try.prog.types[5]) (List.getD k (0 + Int.toNat (0 : Int) * (fun x => x.size) Try.prog.types[5]) (0 : BitVec 8) ^^^ lo &&& BitVec.ofInt 8 (7 : Int))).getD (0 + Int.toNat (31 : Int) * (fun x => x.size) Try.prog.types[5]) (0 : BitVec 8) ^^^ hi &&& BitVec.ofInt 8 (192 : Int))) (List.set u (0 + Int.toNat (31 : Int) * (fun x => x.size) Try.prog.types[5]) (List.getD u (0 + Int.toNat (31 : Int) * (fun x => x.size) Try.prog.types[5]) (0 : BitVec 8) ^^^ lo &&& BitVec.ofInt 8 (128 : Int)))).fst = List.length (f ((List.set k (0 + Int.toNat (0 : Int) * (fun x => x.size) Try.prog.types[5]) (List.getD k (0 + Int.toNat (0 : Int) * (fun x => x.size) Try.prog.types[5]) (0 : BitVec 8) ^^^ lo &&& BitVec.ofInt 8 (7 : Int))).set (0 + Int.toNat (31 : Int) * (fun x => x.size) Try.prog.types[5]) ((List.set k (0 + Int.toNat (0 : Int) * (fun x => x.size) Try.prog.types[5]) (List.getD k (0 + Int.toNat (0 : Int) * (fun x => x.size) Try.prog.types[5]) (0 : BitVec 8) ^^^ lo &&& BitVec.ofInt 8 (7 : Int))).getD (0 + Int.toNat (31 : Int) * (fun x => x.size) Try.prog.types[5]) (0 : BitVec 8) ^^^ hi &&& BitVec.ofInt 8 (192 : Int))) (List.set u (0 + Int.toNat (31 : Int) * (fun x => x.size) Try.prog.types[5]) (List.getD u (0 + Int.toNat (31 : Int) * (fun x => x.size) Try.prog.types[5]) (0 : BitVec 8) ^^^ lo &&& BitVec.ofInt 8 (128 : Int)))).fst, ((f k u).fst == (f ((List.set k (0 + Int.toNat (0 : Int) * (fun x => x.size) Try.prog.types[5]) (List.getD k (0 + Int.toNat (0 : Int) * (fun x => x.size) Try.prog.types[5]) (0 : BitVec 8) ^^^ lo &&& BitVec.ofInt 8 (7 : Int))).set (0 + Int.toNat (31 : Int) * (fun x => x.size) Try.prog.types[5]) ((List.set k (0 + Int.toNat (0 : Int) * (fun x => x.size) Try.prog.types[5]) (List.getD k (0 + Int.toNat (0 : Int) * (fun x => x.size) Try.prog.types[5]) (0 : BitVec 8) ^^^ lo &&& BitVec.ofInt 8 (7 : Int))).getD (0 + Int.toNat (31 : Int) * (fun x => x.size) Try.prog.types[5]) (0 : BitVec 8) ^^^ hi &&& BitVec.ofInt 8 (192 : Int))) (List.set u (0 + Int.toNat (31 : Int) * (fun x => x.size) Try.prog.types[5]) (List.getD u (0 + Int.toNat (31 : Int) * (fun x => x.size) Try.prog.types[5]) (0 : BitVec 8) ^^^ lo &&& BitVec.ofInt 8 (128 : Int)))).fst) = true]) := by kernel_rfl
theorem runLawK (f g : BL → BL → BL × Int) (k u : BL) (lo hi : BitVec 8) : fnS Try.prog (lookG (tblXL f g)) (orcA [(1, [(2, true)]), (3, [(1, true)])]) [] 10 6 [sc (.d8 k), sc (.d8 u), sc (.u8 lo), sc (.u8 hi)] =
    some (sc (IV.bool true), [(!(↑(List.length k) : Int) == (32 : Int)) = true, List.length k = List.length k, List.length k ≤ 140737488351232, List.length u = List.length u, List.length u ≤ 140737488351232, List.length k = List.length k, List.length u = List.length u, ((f k u).snd == (1 : Int)) = true]) := by kernel_rfl
theorem runLawU (f g : BL → BL → BL × Int) (k u : BL) (lo hi : BitVec 8) : fnS Try.prog (lookG (tblXL f g)) (orcA [(1, [(2, false), (6, true)]), (3, [(1, true)])]) [] 10 6 [sc (.d8 k), sc (.d8 u), sc (.u8 lo), sc (.u8 hi)] =
    some (sc (IV.bool true), [(!(↑(List.length k) : Int) == (32 : Int)) = false, (!(↑(List.length u) : Int) == (32 : Int)) = true, List.length k = List.length k, List.length k ≤ 140737488351232, List.length u = List.length u, List.length u ≤ 140737488351232, List.length k = List.length k, List.length u = List.length u, ((f k u).snd == (1 : Int)) = true]) := by kernel_rfl
theorem x248 (x y : BitVec 8) : (x ^^^ (y &&& 7#8)) &&& 248#8 = x &&& 248#8 := by
  apply BitVec.eq_of_getLsbD_eq
  intro i hi
  rcases (by omega : i = 0 ∨ i = 1 ∨ i = 2 ∨ i = 3 ∨ i = 4 ∨ i = 5 ∨ i = 6 ∨ i = 7) with e | e | e | e | e | e | e | e <;> subst e <;> simp
theorem x63 (x y : BitVec 8) : (x ^^^ (y &&& 192#8)) &&& 63#8 = x &&& 63#8 := by
  apply BitVec.eq_of_getLsbD_eq
  intro i hi
  rcases (by omega : i = 0 ∨ i = 1 ∨ i = 2 ∨ i = 3 ∨ i = 4 ∨ i = 5 ∨ i = 6 ∨ i = 7) with e | e | e | e | e | e | e | e <;> subst e <;> simp
theorem c127 : ∀ x : BitVec 8, x % 128#8 = x &&& 127#8 := by decide
theorem x127 (x y : BitVec 8) : (x ^^^ (y &&& 128#8)) % 128#8 = x % 128#8 := by
  rw [c127, c127]
  apply BitVec.eq_of_getLsbD_eq
  intro i hi
  rcases (by omega : i = 0 ∨ i = 1 ∨ i = 2 ∨ i = 3 ∨ i = 4 ∨ i = 5 ∨ i = 6 ∨ i = 7) with e | e | e | e | e | e | e | e <;> subst e <;> simp
theorem getD_set8 (l : BL) (i j : Nat) (x : BitVec 8) (h : i < l.length) : (l.set i x).getD j 0#8 = if j = i then x else l.getD j 0#8 := by
  rw [List.getD_eq_getElem?_getD, List.getD_eq_getElem?_getD, List.getElem?_set]
  by_cases e : i = j
  · subst e; simp [h]
  · rw [if_neg e, if_neg (fun h => e h.symm)]
/-- The bits that are clamped change nothing. -/
theorem clamp_same (k : BL) (hk : k.length = 32) (lo hi : BitVec 8) : clampL ((k.set 0 (k.getD 0 0#8 ^^^ (lo &&& 7#8))).set 31 ((k.set 0 (k.getD 0 0#8 ^^^ (lo &&& 7#8))).getD 31 0#8 ^^^ (hi &&& 192#8))) = clampL k := by
  have h1 : ∀ x, (k.set 0 x).getD 31 0#8 = k.getD 31 0#8 := fun x => by rw [getD_set8 _ _ _ _ (by omega), if_neg (by omega)]
  have h2 : ∀ y z : BitVec 8, ((k.set 0 y).set 31 z).getD 0 0#8 = y := fun y z => by
    rw [getD_set8 _ _ _ _ (by rw [List.length_set]; omega), if_neg (by omega), getD_set8 _ _ _ _ (by omega), if_pos rfl]
  have h3 : ∀ y z w : BitVec 8, (((k.set 0 y).set 31 z).set 0 w).getD 31 0#8 = z := fun y z w => by
    rw [getD_set8 _ _ _ _ (by rw [List.length_set, List.length_set]; omega), if_neg (by omega), getD_set8 _ _ _ _ (by rw [List.length_set]; omega), if_pos rfl]
  unfold clampL
  rw [h1, h1, h2, h3, x248, x63]
  rw [List.set_comm _ _ (by omega : (31 : Nat) ≠ 0), List.set_set, List.set_set]
/-- The highest bit changes nothing. -/
theorem ladX_same (u : BL) (hu : u.length = 32) (lo : BitVec 8) : ladX (u.set 31 (u.getD 31 0#8 ^^^ (lo &&& 128#8))) = ladX u := by
  have hl : (u.set 31 (u.getD 31 0#8 ^^^ (lo &&& 128#8))).length = 32 := by rw [List.length_set, hu]
  have h1 := bv_set31 hl
  have h2 := bv_set31 hu
  rw [getD_set8 _ _ _ _ (by omega), if_pos rfl, List.set_set, x127, h2] at h1
  unfold ladX
  rw [h1]
theorem bits_same (k u : BL) (hk : k.length = 32) (hu : u.length = 32) (lo hi : BitVec 8) : multV ((k.set 0 (k.getD 0 0#8 ^^^ (lo &&& 7#8))).set 31 ((k.set 0 (k.getD 0 0#8 ^^^ (lo &&& 7#8))).getD 31 0#8 ^^^ (hi &&& 192#8))) (u.set 31 (u.getD 31 0#8 ^^^ (lo &&& 128#8))) = multV k u := by
  have l1 : ((k.set 0 (k.getD 0 0#8 ^^^ (lo &&& 7#8))).set 31 ((k.set 0 (k.getD 0 0#8 ^^^ (lo &&& 7#8))).getD 31 0#8 ^^^ (hi &&& 192#8))).length = 32 := by rw [List.length_set, List.length_set, hk]
  have l2 : (u.set 31 (u.getD 31 0#8 ^^^ (lo &&& 128#8))).length = 32 := by rw [List.length_set, hu]
  rw [multV, multV, if_pos ⟨l1, l2⟩, if_pos ⟨hk, hu⟩]
  unfold ladB
  rw [clamp_same k hk, ladX_same u hu]
theorem law (k : BL) (lk : k.length ≤ reachBytes) (u : BL) (lu : u.length ≤ reachBytes) (lo hi : BitVec 8) (w : World) (vals : List Value) (hv : F2 (DV w) [sc (.d8 k), sc (.d8 u), sc (.u8 lo), sc (.u8 hi)] vals) :
    Calls Try.prog 6 vals.toArray w fun e w' => ∃ v, e = .returned v ∧ Below w.heap.size w w' ∧ ResOk w.heap.size w' (sc (.bool true)) v := by
  have hkB : k.length ≤ 140737488351232 := lk
  have huB : u.length ≤ 140737488351232 := lu
  by_cases hk : k.length = 32
  · by_cases hu : u.length = 32
    · have r0 := runLaw multV sharedV k u lo hi
      have e := bits_same k u hk hu lo hi
      have i0 : 0 + Int.toNat (0 : Int) * (fun x => x.size) Try.prog.types[5] = 0 := by kernel_rfl
      have i31 : 0 + Int.toNat (31 : Int) * (fun x => x.size) Try.prog.types[5] = 31 := by kernel_rfl
      have c7 : BitVec.ofInt 8 (7 : Int) = 7#8 := by kernel_rfl
      have c192 : BitVec.ofInt 8 (192 : Int) = 192#8 := by kernel_rfl
      have c128 : BitVec.ofInt 8 (128 : Int) = 128#8 := by kernel_rfl
      have z8 : (0 : BitVec 8) = 0#8 := rfl
      simp only [i0, i31, c7, c192, c128, z8] at r0
      rw [e] at r0
      have h2 : (multV k u).2 = 0 := by rw [multV, if_pos ⟨hk, hu⟩]
      have hl := multV_len h2
      rw [h2] at r0
      refine calls_of_fnS gsXL fol r0 ?_ w vals hv
      clear r0 e
      simp only [AllP]
      and_intros <;> first | exact True.intro | with_reducible rfl | exact beq_self_eq_true _ | exact lcT hk | exact lcT hu | omega | rfl | exact beq_iff_eq.2 (by omega)
    · have r0 := runLawU multV sharedV k u lo hi
      have e : multV k u = ([], 1) := by rw [multV, if_neg (fun h => hu h.2)]
      rw [e] at r0
      refine calls_of_fnS gsXL fol r0 ?_ w vals hv
      clear r0 e
      simp only [AllP]
      and_intros <;> first | exact True.intro | with_reducible rfl | exact lcT hk | exact lcF hu | omega | rfl
  · have r0 := runLawK multV sharedV k u lo hi
    have e : multV k u = ([], 1) := by rw [multV, if_neg (fun h => hk h.1)]
    rw [e] at r0
    refine calls_of_fnS gsXL fol r0 ?_ w vals hv
    clear r0 e
    simp only [AllP]
    and_intros <;> first | exact True.intro | with_reducible rfl | exact lcF hk | omega | rfl
theorem ladderBitsLifted (os : Os) (started : os.Started) (H : Type) (enc : TypeId × Value → H) :
    ReturnsInHanded {} Try.checked os 6 .any (Rows.ladderBitsSpec.pre6 enc Try.prog Try.f6 Rows.ladderBitsRow.domain false) (Rows.ladderBitsSpec.post enc Try.prog Try.f6 false true false false) := by
  refine returnsInHanded_of_change_sized (C := Try.checked) own started (by kernel_rfl) Try.func6
    (ChangeSpec.witness6 (enc := enc) (C := Try.checked) false ⟨#[], #[.slice none 0 0, .slice none 0 0, .int .u8 0, .int .u8 0], []⟩ 8 (by kernel_rfl) (by kernel_rfl) (by kernel_rfl) (by kernel_rfl)) ?_
  intro W base args ds gs before hval0 hW hcnd hsz _
  have hval : ∀ (j : Nat) t v, Try.f6.params[j]? = some t → args[j]? = some v → Value.okWide Try.prog W .any base t v := hval0
  have hW' := hW
  obtain ⟨p, q, hA0, hV, rfl, hfz, hnd⟩ := hW
  have hA : DataW.TrodAll enc Try.prog W 0 (fun _ => true) true Try.f6.params.toList args.toList ds p := hA0
  rw [Try.params6] at hA hval
  obtain ⟨v0, v1, v2, v3, d0, d1, d2, d3, p0, p1, p2, p3, rfl, rfl, rfl, h0, h1, h2, h3⟩ := trodAll_four hA
  obtain ⟨rfl, rfl⟩ := trodVars_none hV
  obtain ⟨a0, e0, l0, s0⟩ := open_d8 (e := 5) (by kernel_rfl) (by kernel_rfl) (by kernel_rfl) (by kernel_rfl) (hval 0 _ v0 rfl rfl) h0
  replace l0 := l0 reachBytes fun x hx => of_decide_eq_true (List.all_eq_true.1 hsz x (DataW.weights_mem_each (j := 0) rfl rfl x hx))
  obtain ⟨a1, e1, l1, s1⟩ := open_d8 (e := 5) (by kernel_rfl) (by kernel_rfl) (by kernel_rfl) (by kernel_rfl) (hval 1 _ v1 rfl rfl) h1
  replace l1 := l1 reachBytes fun x hx => of_decide_eq_true (List.all_eq_true.1 hsz x (DataW.weights_mem_each (j := 1) rfl rfl x hx))
  obtain ⟨a2, e2⟩ := open_u8 (by kernel_rfl) (hval 2 _ v2 rfl rfl) h2
  obtain ⟨a3, e3⟩ := open_u8 (by kernel_rfl) (hval 3 _ v3 rfl rfl) h3
  refine (law a0 l0 a1 l1 a2 a3 W [v0, v1, v2, v3] ⟨e0, e1, e2, e3, trivial⟩).mono fun e W' ⟨v, he, hbelow, hres⟩ => ⟨v, he, ?_⟩
  rw [resBool hres]
  exact law_post laidOut (by rw [Try.params6]; exact of_decide_eq_true (by kernel_rfl)) rfl rfl (tb := 4) (by kernel_rfl) hW' rfl hbelow

theorem ladderBits_holds : Rows.LadderBitsSaid :=
  OpenClaim.holds_of_wide 6 Try.f6 rfl rfl rfl rfl rfl rfl rfl ⟨rfl, rfl, rfl, rfl, rfl⟩ rfl rfl rfl rfl rfl (by kernel_rfl) Try.func6 (by kernel_rfl)
    (of_decide_eq_true (by kernel_rfl)) (by unfold Func.isWrapper; first | (rw [if_pos (by decide +kernel)]; kernel_rfl) | (rw [if_neg (by decide +kernel)]; exact ⟨rfl, rfl⟩))
    (fun os started H enc _ => ladderBitsLifted os started H enc)

end Go.Proofs.Ytpeplakhcgaajaa
