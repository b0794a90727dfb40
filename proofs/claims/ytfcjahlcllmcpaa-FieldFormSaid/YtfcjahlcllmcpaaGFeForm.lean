/- PROVED: sealwaxlaw03.FieldForm answers true for every argument, and each argument reads behind the call as it read before. Conditions: none. Own work. -/
import Derived.Test.YtfcjahlcllmcpaaMgr
namespace Go.Proofs.Ytfcjahlcllmcpaa
open Go.Ev Go.Sp Go.ChangeShapes Go.WideShapes Go.RowKit
set_option maxRecDepth 100000
theorem dec_enc {x : Nat} (hx : x < Pp) : decV (bl x 32) = (x, 0) := by
  have h : bv (bl x 32) = x := by rw [bv_bl, show (256 : Nat) ^ 32 = p256 by decide, Nat.mod_eq_of_lt (lt256 hx)]
  unfold decV
  rw [if_pos (bl_length x 32), h, if_pos hx]
theorem dec_not {b : List (BitVec 8)} (h : (decV b).2 ≠ 0) : (decV b).1 = 0 := by
  unfold decV at *
  split at h
  · split at h
    · exact absurd rfl h
    · rename_i h1 h2; rw [if_pos h1, if_neg h2]
  · rename_i h1; rw [if_neg h1]
theorem dec_ok {b : List (BitVec 8)} (h : (decV b).2 = 0) : b.length = 32 ∧ (decV b).1 = bv b ∧ bv b < Pp := by
  unfold decV at *
  split at h
  · split at h
    · rename_i h1 h2; rw [if_pos h1, if_pos h2]; exact ⟨h1, rfl, h2⟩
    · simp at h
  · simp at h
theorem runLawE (f : Nat → Nat → Nat) (g : Nat → Nat × Bool) (v : Nat → Nat) (a : N4) (b : List (BitVec 8)) : fnS Try.prog (lookG (tblY f g v)) (orcA [(2, [(3, false), (6, false)]), (5, [(1, true), (5, true)])]) [] 10 12 [.val true [.n4 a], sc (.d8 b)] =
    some (sc (IV.bool true), [(bl (val a % Pp) 32).length = (bl (val a % Pp) 32).length, (!((ofN (decV (bl (val a % Pp) 32)).fst).eq (ofN (val a % Pp)) && true)) = false, (!(decV (bl (val a % Pp) 32)).snd == (0 : Int)) = false, b.length = b.length, 0 = 0, (0 + b.length) * 1 ≤ 140737488355328 ∧ 0 + b.length ≤ 9223372036854775807, 0 + b.length = b.length, (!(decV b).snd == (0 : Int)) = true, ((ofN (decV b).fst).eq (N4.mk (BitVec.ofNat 64 0) (BitVec.ofNat 64 0) (BitVec.ofNat 64 0) (BitVec.ofNat 64 0)) && true) = true]) := by kernel_rfl
theorem runLawO (f : Nat → Nat → Nat) (g : Nat → Nat × Bool) (v : Nat → Nat) (a : N4) (b : List (BitVec 8)) : fnS Try.prog (lookG (tblY f g v)) (orcA [(2, [(3, false), (6, false)]), (5, [(1, false), (9, true), (16, true)])]) [] 10 12 [.val true [.n4 a], sc (.d8 b)] =
    some (sc (IV.bool true), [(bl (val a % Pp) 32).length = (bl (val a % Pp) 32).length, (!((ofN (decV (bl (val a % Pp) 32)).fst).eq (ofN (val a % Pp)) && true)) = false, (!(decV (bl (val a % Pp) 32)).snd == (0 : Int)) = false, b.length = b.length, 0 = 0, (0 + b.length) * 1 ≤ 140737488355328 ∧ 0 + b.length ≤ 9223372036854775807, 0 + b.length = b.length, (!(decV b).snd == (0 : Int)) = false, ((decV b).snd == (0 : Int)) = true, (bl (val (ofN (decV b).fst) % Pp) 32).length = (bl (val (ofN (decV b).fst) % Pp) 32).length, b.length = b.length, (bl (val (ofN (decV b).fst) % Pp) 32 == b) = true]) := by kernel_rfl
theorem law (a : N4) (b : List (BitVec 8)) (lb : b.length ≤ reachBytes) (w : World) (vals : List Value) (hv : F2 (DV w) [.val true [.n4 a], sc (.d8 b)] vals) :
    Calls Try.prog 12 vals.toArray w fun e w' => ∃ v, e = .returned v ∧ Below w.heap.size w w' ∧ ResOk w.heap.size w' (sc (.bool true)) v := by
  have hx := Nat.mod_lt (val a) Pp_pos
  have hb : b.length ≤ 140737488351232 := lb
  have r0 := runLawE pw prV fInv a b
  have r1 := runLawO pw prV fInv a b
  rw [dec_enc hx] at r0 r1
  have c1 : (!((ofN (val a % Pp)).eq (ofN (val a % Pp)) && true)) = false := by rw [eqN rfl]; rfl
  by_cases h : (decV b).2 = 0
  · obtain ⟨h1, h2, h3⟩ := dec_ok h
    have e : bl (val (ofN (decV b).1) % Pp) 32 = b := by
      rw [h2, val_lo h3, Nat.mod_eq_of_lt h3, ← h1, bl_bv]
    rw [e, h] at r1
    exact calls_of_fnS gsY fol r1 ⟨rfl, c1, rfl, rfl, rfl, ⟨by omega, by omega⟩, by omega, rfl, rfl, rfl, rfl, beq_self_eq_true _, trivial⟩ w vals hv
  · have c2 : (!(decV b).2 == (0 : Int)) = true := neqB h
    rw [dec_not h] at r0
    exact calls_of_fnS gsY fol r0 ⟨rfl, c1, rfl, rfl, rfl, ⟨by omega, by omega⟩, by omega, c2, eqN rfl, trivial⟩ w vals hv
theorem fieldFormLifted (os : Os) (started : os.Started) (H : Type) (enc : TypeId × Value → H) :
    ReturnsInHanded {} Try.checked os 12 .any (Rows.fieldFormSpec.pre6 enc Try.prog Try.f12 Rows.fieldFormRow.domain false) (Rows.fieldFormSpec.post enc Try.prog Try.f12 false true false false) := by
  refine returnsInHanded_of_change_sized (C := Try.checked) own started (by kernel_rfl) Try.func12
    (ChangeSpec.witness6 (enc := enc) (C := Try.checked) false ⟨#[], #[.agg (Array.replicate 4 (.int .u64 0)), .slice none 0 0], []⟩ 8 (by kernel_rfl) (by kernel_rfl) (by kernel_rfl) (by kernel_rfl)) ?_
  intro W base args ds gs before hval0 hW hcnd hsz _
  have hval : ∀ (j : Nat) t v, Try.f12.params[j]? = some t → args[j]? = some v → Value.okWide Try.prog W .any base t v := hval0
  have hW' := hW
  obtain ⟨p, q, hA0, hV, rfl, hfz, hnd⟩ := hW
  have hA : DataW.TrodAll enc Try.prog W 0 (fun _ => true) true Try.f12.params.toList args.toList ds p := hA0
  rw [Try.params12] at hA hval
  obtain ⟨v0, v1, d0, d1, p0, p1, rfl, rfl, rfl, h0, h1⟩ := trodAll_two hA
  obtain ⟨rfl, rfl⟩ := trodVars_none hV
  obtain ⟨a0, e0⟩ := openNum (hval 0 _ v0 rfl rfl) h0
  obtain ⟨a1, e1, l1, s1⟩ := open_d8 (e := 5) (by kernel_rfl) (by kernel_rfl) (by kernel_rfl) (by kernel_rfl) (hval 1 _ v1 rfl rfl) h1
  replace l1 := l1 reachBytes fun x hx => of_decide_eq_true (List.all_eq_true.1 hsz x (DataW.weights_mem_each (j := 1) rfl rfl x hx))
  refine (law a0 a1 l1 W [v0, v1] ⟨e0, e1, trivial⟩).mono fun e W' ⟨v, he, hbelow, hres⟩ => ⟨v, he, ?_⟩
  rw [resBool hres]
  exact law_post laidOut (by rw [Try.params12]; exact of_decide_eq_true (by kernel_rfl)) rfl rfl (tb := 4) (by kernel_rfl) hW' rfl hbelow

theorem fieldForm_holds : Rows.FieldFormSaid :=
  OpenClaim.holds_of_wide 12 Try.f12 rfl rfl rfl rfl rfl rfl rfl ⟨rfl, rfl, rfl, rfl, rfl⟩ rfl rfl rfl rfl rfl (by kernel_rfl) Try.func12 (by kernel_rfl)
    (of_decide_eq_true (by kernel_rfl)) (by unfold Func.isWrapper; first | (rw [if_pos (by decide +kernel)]; kernel_rfl) | (rw [if_neg (by decide +kernel)]; exact ⟨rfl, rfl⟩))
    (fun os started H enc _ => fieldFormLifted os started H enc)

end Go.Proofs.Ytfcjahlcllmcpaa
