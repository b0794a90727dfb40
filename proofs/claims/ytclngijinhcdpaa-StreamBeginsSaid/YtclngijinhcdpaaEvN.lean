/- From a row's arguments to the evaluator's data, and from its result to the row. Own work; no statement of the seat is proved here. -/
import Derived.Test.YtclngijinhcdpaaEvM
import Derived.ProofKit
import Derived.OpenShut
import Derived.SizedLaws
namespace Go.Ev
open Go.ChangeShapes Go.WideShapes Go.RowKit

theorem trodAll_below {H : Type} {enc : TypeId × Value → H} {P : Program} (hl : laidOutB P = true) {W W' : World} (hb : Below W.heap.size W W') :
    ∀ (ts : List TypeId) (vs : List Value) (ds : List (DataW H)) (ps : List MemPlace), (∀ t ∈ ts, P.readableRec t = true ∧ t < P.types.size) → (∀ x ∈ ps, x.block < W.heap.size) →
      DataW.TrodAll enc P W 0 (fun _ => true) true ts vs ds ps → DataW.TrodAll enc P W' 0 (fun b => decide (b < W.heap.size)) true ts vs ds ps := by
  intro ts
  induction ts with
  | nil =>
    intro vs ds ps _ _ h
    obtain ⟨rfl, rfl, rfl⟩ := trodAll_nil h
    exact rfl
  | cons t ts ih =>
    intro vs ds ps hr hlt h
    obtain ⟨v, vs', d, ds', p, q, rfl, rfl, rfl, h1, h2⟩ := trodAll_cons h
    obtain ⟨r1, r2⟩ := hr t (List.mem_cons_self ..)
    exact ⟨p, q, Below.trod hl r1 r2 h1 hb (fun x hx => hlt x (List.mem_append_left _ hx)), ih vs' ds' q (fun t ht => hr t (List.mem_cons_of_mem _ ht)) (fun x hx => hlt x (List.mem_append_right _ hx)) h2, rfl⟩

/-- THE ROW: 'true; each argument reads as it did', of a call that only made memory. -/
theorem law_post {H : Type} {enc : TypeId × Value → H} {P : Program} {f : Func} {s : ChangeSpec} {W W' : World} {args : Array Value} {ds gs : List (DataW H)} {before : List MemPlace} {tb : TypeId}
    (hl : laidOutB P = true) (hr : ∀ t ∈ f.params.toList, P.readableRec t = true ∧ t < P.types.size) (hvars : s.vars = []) (hres : f.resultTypes = #[tb]) (htb : P.underlying tb = some .bool)
    (hW : DataW.Whole enc P f.params.toList s.vars false W args.toList ds gs before)
    (hsp : s.fn H (ds ++ gs) = { results := [.lit (.bool true)], args := ds }) (hb : Below W.heap.size W W') :
    s.post enc P f false true false false W args (.bool true) W' := by
  have hW' := hW
  obtain ⟨p, q, hA, hV, rfl, _, _⟩ := hW
  rw [hvars] at hV
  obtain ⟨rfl, rfl⟩ := trodVars_none hV
  rw [List.append_nil] at hsp hW'
  refine ⟨ds, [], _, [], p, [], hW', ?_, ?_, ?_, hb.frame _, fun h => by simp at h⟩
  · rw [List.append_nil, hsp, hres]
    exact ⟨[], [], ⟨1, by simp [DataW.trod, htb, Value.cells]⟩, rfl, rfl⟩
  · rw [List.append_nil, hsp]
    exact trodAll_below hl hb _ _ _ _ hr (fun x hx => by have := hW'.lt x hx; simpa using this) hA
  · rw [List.append_nil, hsp, hvars]
    exact rfl

/-! ### Arguments opened -/
section
variable {H : Type} {enc : TypeId × Value → H} {P : Program} {W : World} {t e : TypeId} {v : Value} {d : DataW H} {ps : List MemPlace} {base : Nat} {spare : Nat → Bool} {held : Bool}

theorem wf_u64 {n : Int} (h : (Lit.int .u64 n).wf = true) : ∃ x : BitVec 64, n = (x.toNat : Int) := by
  simp [Lit.wf, IntKind.min, IntKind.max, IntKind.signed, IntKind.bits] at h
  refine ⟨BitVec.ofNat 64 n.toNat, ?_⟩
  simp
  omega
theorem wf_u8 {n : Int} (h : (Lit.int .u8 n).wf = true) : ∃ x : BitVec 8, n = (x.toNat : Int) := by
  simp [Lit.wf, IntKind.min, IntKind.max, IntKind.signed, IntKind.bits] at h
  refine ⟨BitVec.ofNat 8 n.toNat, ?_⟩
  simp
  omega
theorem wf_u32 {n : Int} (h : (Lit.int .u32 n).wf = true) : ∃ x : BitVec 32, n = (x.toNat : Int) := by
  simp [Lit.wf, IntKind.min, IntKind.max, IntKind.signed, IntKind.bits] at h
  refine ⟨BitVec.ofNat 32 n.toNat, ?_⟩
  simp
  omega
theorem wf_u16 {n : Int} (h : (Lit.int .u16 n).wf = true) : 0 ≤ n ∧ n ≤ 65535 := by
  simp [Lit.wf, IntKind.min, IntKind.max, IntKind.signed, IntKind.bits] at h
  omega
theorem wf_i64 {n : Int} (h : (Lit.int .i64 n).wf = true) : -9223372036854775808 ≤ n ∧ n ≤ 9223372036854775807 := by
  simp [Lit.wf, IntKind.min, IntKind.max, IntKind.signed, IntKind.bits] at h
  omega

theorem open_i64 (ht : P.underlying t = some (.int .i64)) (hval : Value.okWide P W .any base t v) (hd : DataW.Trod enc P W 0 (fun _ => true) true t v d ps) :
    ∃ n : Int, DV W (sc (.i64 n)) v ∧ -9223372036854775808 ≤ n ∧ n ≤ 9223372036854775807 := by
  obtain ⟨n, rfl, _, _, hw⟩ := open_int ht hval hd
  exact ⟨n, ⟨[.int .i64 n], ⟨[.int .i64 n], [], rfl, rfl, rfl⟩, rfl⟩, wf_i64 hw⟩

theorem open_u64 (ht : P.underlying t = some (.int .u64)) (hval : Value.okWide P W .any base t v) (hd : DataW.Trod enc P W 0 (fun _ => true) true t v d ps) :
    ∃ x : BitVec 64, DV W (sc (.u64 x)) v := by
  obtain ⟨n, rfl, _, _, hw⟩ := open_int ht hval hd
  obtain ⟨x, rfl⟩ := wf_u64 hw
  exact ⟨x, ⟨[wordVal x], ⟨[wordVal x], [], rfl, rfl, rfl⟩, rfl⟩⟩

theorem open_u8 (ht : P.underlying t = some (.int .u8)) (hval : Value.okWide P W .any base t v) (hd : DataW.Trod enc P W 0 (fun _ => true) true t v d ps) :
    ∃ x : BitVec 8, DV W (sc (.u8 x)) v := by
  obtain ⟨n, rfl, _, _, hw⟩ := open_int ht hval hd
  obtain ⟨x, rfl⟩ := wf_u8 hw
  exact ⟨x, ⟨[byteVal x], ⟨[byteVal x], [], rfl, rfl, rfl⟩, rfl⟩⟩

theorem open_u16 (ht : P.underlying t = some (.int .u16)) (hval : Value.okWide P W .any base t v) (hd : DataW.Trod enc P W 0 (fun _ => true) true t v d ps) :
    ∃ x : BitVec 16, DV W (sc (.u16 x)) v := by
  obtain ⟨n, rfl, _, _, hw⟩ := open_int ht hval hd
  obtain ⟨h1, h2⟩ := wf_u16 hw
  refine ⟨BitVec.ofInt 16 n, ⟨_, ⟨_, [], rfl, rfl, rfl⟩, ?_⟩⟩
  have : ((BitVec.ofInt 16 n).toNat : Int) = n := by rw [BitVec.toNat_ofInt]; omega
  show [half16 _] = [_]
  simp only [half16, this]
theorem open_u32 (ht : P.underlying t = some (.int .u32)) (hval : Value.okWide P W .any base t v) (hd : DataW.Trod enc P W 0 (fun _ => true) true t v d ps) :
    ∃ x : BitVec 32, DV W (sc (.u32 x)) v := by
  obtain ⟨n, rfl, _, _, hw⟩ := open_int ht hval hd
  obtain ⟨x, rfl⟩ := wf_u32 hw
  exact ⟨x, ⟨[w32Val x], ⟨[w32Val x], [], rfl, rfl, rfl⟩, rfl⟩⟩

/-- An array of integers: its cells. -/
theorem open_arr {n : Nat} {k : IntKind} (ht : P.underlying t = some (.array n e)) (he : P.underlying e = some (.int k)) (hce : P.cellsOf e = 1) (hct : P.cellsOf t = n)
    (hval : Value.okWide P W .any base t v) (hd : DataW.Trod enc P W 0 (fun _ => true) true t v d ps) :
    ∃ zs : List Int, v = .agg (zs.map (Value.int k)).toArray ∧ zs.length = n ∧ ∀ z ∈ zs, (Lit.int k z).wf = true := by
  have hv : ∃ cs, v = .agg cs := by
    simp only [Value.okWide, ht] at hval
    obtain ⟨cs, hcs, _⟩ := hval
    exact ⟨cs, hcs⟩
  obtain ⟨cs, rfl⟩ := hv
  obtain ⟨fuel, hf⟩ := hd
  obtain ⟨xs, m, _, _, hl, hn, hx⟩ := DataW.trod_array ht hf
  have hl' : cs.toList.length = n := by rw [← hct]; exact hl
  have hcell : ∀ i, i < n → ∃ z, cs.toList[i]? = some (.int k z) ∧ (Lit.int k z).wf = true := by
    intro i hi
    have := hx i hi
    rw [hce, Nat.mul_one] at this
    have hxi : ∃ y, xs[i]? = some y := ⟨xs[i], List.getElem?_eq_getElem (by omega)⟩
    obtain ⟨y, hy⟩ := hxi
    rw [hy] at this
    obtain ⟨z, hz, _, hw⟩ := DataW.trod_int he this
    refine ⟨z, ?_, hw⟩
    have h1 : ((Value.agg cs).cells.toList.drop i).take 1 = [.int k z] := hz
    have h2 : (((Value.agg cs).cells.toList.drop i).take 1)[0]? = some (.int k z) := by rw [h1]; rfl
    rw [List.getElem?_take, List.getElem?_drop] at h2
    simpa [Value.cells] using h2
  have gen : ∀ (l : List Value), (∀ i, i < l.length → ∃ z, l[i]? = some (.int k z) ∧ (Lit.int k z).wf = true) → ∃ zs : List Int, l = zs.map (Value.int k) ∧ ∀ z ∈ zs, (Lit.int k z).wf = true := by
    intro l
    induction l with
    | nil => intro _; exact ⟨[], rfl, by simp⟩
    | cons a l ih =>
      intro h
      obtain ⟨zs, h1, h2⟩ := ih fun i hi => by have := h (i + 1) (by simpa using hi); simpa using this
      obtain ⟨z, hz, hw⟩ := h 0 (by simp)
      simp at hz
      refine ⟨z :: zs, by simp [h1, hz], fun y hy => ?_⟩
      rcases List.mem_cons.1 hy with rfl | hy
      · exact hw
      · exact h2 y hy
  obtain ⟨zs, h1, h2⟩ := gen cs.toList fun i hi => hcell i (by omega)
  refine ⟨zs, ?_, ?_, h2⟩
  · rw [← h1]
  · have := congrArg List.length h1
    simp at this
    have h3 : cs.toList.length = cs.size := by simp
    omega

theorem words_of {zs : List Int} (h : ∀ z ∈ zs, (Lit.int .u64 z).wf = true) : ∃ l : List (BitVec 64), zs.map (Value.int .u64) = l.map wordVal ∧ l.length = zs.length := by
  induction zs with
  | nil => exact ⟨[], rfl, rfl⟩
  | cons z zs ih =>
    obtain ⟨l, h1, h2⟩ := ih fun y hy => h y (List.mem_cons_of_mem _ hy)
    obtain ⟨x, hx⟩ := wf_u64 (h z (List.mem_cons_self ..))
    exact ⟨x :: l, by simp [h1, hx, wordVal], by simp [h2]⟩
theorem bytes_of {zs : List Int} (h : ∀ z ∈ zs, (Lit.int .u8 z).wf = true) : ∃ l : List (BitVec 8), zs.map (Value.int .u8) = l.map byteVal ∧ l.length = zs.length := by
  induction zs with
  | nil => exact ⟨[], rfl, rfl⟩
  | cons z zs ih =>
    obtain ⟨l, h1, h2⟩ := ih fun y hy => h y (List.mem_cons_of_mem _ hy)
    obtain ⟨x, hx⟩ := wf_u8 (h z (List.mem_cons_self ..))
    exact ⟨x :: l, by simp [h1, hx, byteVal], by simp [h2]⟩

theorem words32_of {zs : List Int} (h : ∀ z ∈ zs, (Lit.int .u32 z).wf = true) : ∃ l : List (BitVec 32), zs.map (Value.int .u32) = l.map w32Val ∧ l.length = zs.length := by
  induction zs with
  | nil => exact ⟨[], rfl, rfl⟩
  | cons z zs ih =>
    obtain ⟨l, h1, h2⟩ := ih fun y hy => h y (List.mem_cons_of_mem _ hy)
    obtain ⟨x, hx⟩ := wf_u32 (h z (List.mem_cons_self ..))
    exact ⟨x :: l, by simp [h1, hx, w32Val], by simp [h2]⟩

theorem DLs_u64s : ∀ l : List (BitVec 64), DLs W (l.map IV.u64) (l.map wordVal)
  | [] => rfl
  | x :: l => ⟨[wordVal x], l.map wordVal, rfl, rfl, DLs_u64s l⟩

theorem open_num (ht : P.underlying t = some (.array 4 e)) (he : P.underlying e = some (.int .u64)) (hce : P.cellsOf e = 1) (hct : P.cellsOf t = 4)
    (hval : Value.okWide P W .any base t v) (hd : DataW.Trod enc P W 0 (fun _ => true) true t v d ps) : ∃ a : N4, DV W (.val true [.n4 a]) v := by
  obtain ⟨zs, rfl, hn, hw⟩ := open_arr ht he hce hct hval hd
  obtain ⟨l, h1, h2⟩ := words_of hw
  rw [h1]
  match l, h2.trans hn with
  | [a, b, c, d], _ => exact ⟨⟨a, b, c, d⟩, _, ⟨_, [], (List.append_nil _).symm, rfl, rfl⟩, rfl⟩
theorem open_u64s {n : Nat} (ht : P.underlying t = some (.array n e)) (he : P.underlying e = some (.int .u64)) (hce : P.cellsOf e = 1) (hct : P.cellsOf t = n)
    (hval : Value.okWide P W .any base t v) (hd : DataW.Trod enc P W 0 (fun _ => true) true t v d ps) : ∃ l : List (BitVec 64), l.length = n ∧ DV W (.val true (l.map IV.u64)) v := by
  obtain ⟨zs, rfl, hn, hw⟩ := open_arr ht he hce hct hval hd
  obtain ⟨l, h1, h2⟩ := words_of hw
  rw [h1]
  exact ⟨l, h2.trans hn, _, DLs_u64s l, rfl⟩
theorem open_u8s {n : Nat} (ht : P.underlying t = some (.array n e)) (he : P.underlying e = some (.int .u8)) (hce : P.cellsOf e = 1) (hct : P.cellsOf t = n)
    (hval : Value.okWide P W .any base t v) (hd : DataW.Trod enc P W 0 (fun _ => true) true t v d ps) : ∃ l : List (BitVec 8), l.length = n ∧ DV W (.val true [.v8 n l]) v := by
  obtain ⟨zs, rfl, hn, hw⟩ := open_arr ht he hce hct hval hd
  obtain ⟨l, h1, h2⟩ := bytes_of hw
  rw [h1]
  exact ⟨l, h2.trans hn, _, ⟨_, [], (List.append_nil _).symm, by simp [DCells, PCells, h2, hn], rfl⟩, rfl⟩

theorem open_u32s {n : Nat} (ht : P.underlying t = some (.array n e)) (he : P.underlying e = some (.int .u32)) (hce : P.cellsOf e = 1) (hct : P.cellsOf t = n)
    (hval : Value.okWide P W .any base t v) (hd : DataW.Trod enc P W 0 (fun _ => true) true t v d ps) : ∃ l : List (BitVec 32), l.length = n ∧ DV W (.val true [.v32 n l]) v := by
  obtain ⟨zs, rfl, hn, hw⟩ := open_arr ht he hce hct hval hd
  obtain ⟨l, h1, h2⟩ := words32_of hw
  rw [h1]
  exact ⟨l, h2.trans hn, _, ⟨_, [], (List.append_nil _).symm, by simp [DCells, PCells, h2, hn], rfl⟩, rfl⟩

theorem cell_addr {a : Addr} {u : Value} (h : W.cell? a = some u) : a.block < W.heap.size ∧ a.spot = none := by
  unfold World.cell? at h
  split at h
  case h_2 => simp at h
  rename_i hb
  refine ⟨(Array.getElem?_eq_some_iff.1 hb).1, ?_⟩
  cases hs : a.spot with
  | none => rfl
  | some x => simp [hs] at h

/-- Bytes. -/
theorem open_d8 (ht : P.underlying t = some (.slice e)) (he : P.underlying e = some (.int .u8)) (hce : P.cellsOf e = 1) (hby : P.bytesOf e = 1)
    (hval : Value.okWide P W .any base t v) (hd : DataW.Trod enc P W 0 (fun _ => true) true t v d ps) : ∃ l : List (BitVec 8), DV W (sc (.d8 l)) v ∧ (∀ N, (∀ x ∈ d.weights P t, x ≤ N) → l.length ≤ N) ∧ (l = [] ∨ ∃ elems spare, d = .slice elems spare ∧ l.length ≤ elems.length) := by
  obtain ⟨a1, len, cap, rfl⟩ := okWide_slice ht hval
  obtain ⟨fuel, hf⟩ := hd
  rcases open_ints ht he hce hf with ⟨hcs, hx⟩ | ⟨a, len', cap', zs, hcs, _, hl, hm, hz, hx, hcell, hwz⟩
  · simp [Value.cells] at hcs
    obtain ⟨rfl, rfl, rfl⟩ := hcs
    exact ⟨[], ⟨[.slice none 0 0], ⟨_, [], rfl, ⟨_, rfl, .inr ⟨rfl, rfl, none, rfl⟩⟩, rfl⟩, rfl⟩, fun N _ => by simp, .inl rfl⟩
  · simp [Value.cells] at hcs
    obtain ⟨rfl, rfl, rfl⟩ := hcs
    simp at hz
    obtain ⟨l, h1, h2⟩ := bytes_of hwz
    have hlen : (l.take len).length = len := by simp; omega
    have hmax : maxLen = 9223372036854775807 := rfl
    have hcell0 : ∀ i u, ((l.take len).map byteVal)[i]? = some u → W.cell? (a.add i) = some u := by
      intro i u hu
      rw [List.getElem?_map, List.getElem?_take] at hu
      split at hu
      case isFalse => simp at hu
      have hi : i < zs.length := by omega
      rw [hcell i hi]
      have hg : (zs.map (Value.int .u8))[i]? = (l.map byteVal)[i]? := by rw [h1]
      rw [List.getElem?_map, List.getElem?_map, List.getElem?_eq_getElem hi] at hg
      rw [← List.getElem?_map] at hu
      simp only [List.getElem?_map] at hu
      rw [← hg] at hu
      simp at hu
      subst hu
      simp [List.getD, List.getElem?_eq_getElem hi]
    refine ⟨l.take len, ⟨[_], ⟨[_], [], rfl, ⟨_, rfl, ?_⟩, rfl⟩, rfl⟩, fun N hN => ?_, ?_⟩
    case refine_3 =>
      simp only [Prod.mk.injEq] at hx
      obtain ⟨rfl, rfl⟩ := hx
      exact .inr ⟨_, _, rfl, by simp [lits]; omega⟩
    case refine_2 =>
      simp only [Prod.mk.injEq] at hx
      obtain ⟨rfl, rfl⟩ := hx
      have h3 := hN (((lits (H := H) .u8 (zs.take len)).length + (lits (H := H) .u8 (zs.drop len)).length) * P.bytesOf e) (by simp [DataW.weights, ht])
      simp only [hby, Nat.mul_one, lits, List.length_map, List.length_take, List.length_drop] at h3
      omega
    rw [hlen]
    by_cases h0 : cap = 0
    · subst h0
      have : len = 0 := by omega
      subst this
      exact .inr ⟨rfl, by simp, some a, rfl⟩
    · have hc0 := hcell 0 (by omega)
      obtain ⟨hb, hs⟩ := cell_addr hc0
      obtain ⟨blk, off, sub⟩ := a
      simp [Addr.add] at hb hs
      subst hs
      exact .inl ⟨blk, off, cap, rfl, hl, hb, fun i u hu => (congrArg W.cell? (Addr_add_at blk off i)).symm.trans (hcell0 i u hu)⟩

/-- Four cells of a number. -/
theorem num_cells {t e : TypeId} {fuel : Nat} {cs : List Value} {x : DataW H × List MemPlace} (ht : P.underlying t = some (.array 4 e)) (he : P.underlying e = some (.int .u64)) (hce : P.cellsOf e = 1) (hct : P.cellsOf t = 4)
    (hf : DataW.trod enc P W base spare held fuel t cs = some x) : ∃ a : N4, cs = n4Vals a := by
  obtain ⟨xs, m, _, _, hl, hn, hx⟩ := DataW.trod_array ht hf
  rw [hct] at hl
  have cell : ∀ i, i < 4 → ∃ y : BitVec 64, cs[i]? = some (wordVal y) := by
    intro i hi
    have := hx i hi
    rw [hce, Nat.mul_one] at this
    obtain ⟨y, hy⟩ : ∃ y, xs[i]? = some y := ⟨xs[i], List.getElem?_eq_getElem (by omega)⟩
    rw [hy] at this
    obtain ⟨z, hz, _, hw⟩ := DataW.trod_int he this
    obtain ⟨q, hq⟩ := wf_u64 hw
    refine ⟨q, ?_⟩
    have h2 : ((cs.drop i).take 1)[0]? = some (.int .u64 z) := by rw [hz]; rfl
    rw [List.getElem?_take, List.getElem?_drop] at h2
    rw [hq] at h2
    simpa [wordVal] using h2
  match cs, hl with
  | [c0, c1, c2, c3], _ =>
    obtain ⟨x0, h0⟩ := cell 0 (by omega)
    obtain ⟨x1, h1⟩ := cell 1 (by omega)
    obtain ⟨x2, h2⟩ := cell 2 (by omega)
    obtain ⟨x3, h3⟩ := cell 3 (by omega)
    simp at h0 h1 h2 h3
    exact ⟨⟨x0, x1, x2, x3⟩, by rw [h0, h1, h2, h3]; rfl⟩
/-- Numbers, one behind the other. -/
theorem open_dn {e0 : TypeId} (ht : P.underlying t = some (.slice e)) (he : P.underlying e = some (.array 4 e0)) (he0 : P.underlying e0 = some (.int .u64)) (hce0 : P.cellsOf e0 = 1) (hce : P.cellsOf e = 4)
    (hval : Value.okWide P W .any base t v) (hd : DataW.Trod enc P W 0 (fun _ => true) true t v d ps) : ∃ l : List N4, DV W (sc (.dn l)) v ∧ (l = [] ∨ ∃ elems spare, d = .slice elems spare ∧ l.length ≤ elems.length) := by
  obtain ⟨a1, len, cap, rfl⟩ := okWide_slice ht hval
  obtain ⟨fuel, hf⟩ := hd
  rcases DataW.trod_slice ht hf with ⟨hcs, hx⟩ | ⟨a, len', cap', elems, rest, n, _, hcs, hx, _, hl, hm, hlen, hel, hsp, _⟩
  · simp [Value.cells] at hcs
    obtain ⟨rfl, rfl, rfl⟩ := hcs
    exact ⟨[], ⟨[.slice none 0 0], ⟨_, [], rfl, ⟨_, rfl, .inr ⟨rfl, rfl, none, rfl⟩⟩, rfl⟩, rfl⟩, .inl rfl⟩
  · simp [Value.cells] at hcs
    obtain ⟨rfl, rfl, rfl⟩ := hcs
    obtain ⟨hrl, hr⟩ := hsp rfl
    have one : ∀ i y, (W.cells? 0 (a.add (i * P.cellsOf e)) (P.cellsOf e)).bind (DataW.trod enc P W 0 (fun _ => true) true n e) = some y → ∃ y : N4, ∀ j, j < 4 → W.cell? ((a.add (i * 4)).add j) = some (wordVal (y.get j)) := by
      intro i y h1
      rw [hce, Option.bind_eq_some_iff] at h1
      obtain ⟨cs, h2, h3⟩ := h1
      obtain ⟨y, rfl⟩ := num_cells he he0 hce0 hce h3
      obtain ⟨_, h4, h5⟩ := World.cells?_some h2
      exact ⟨y, fun j hj => (h5 j hj).trans (n4_get y j hj)⟩
    have each : ∀ i, i < len → ∃ y : N4, ∀ j, j < 4 → W.cell? ((a.add (i * 4)).add j) = some (wordVal (y.get j)) := fun i hi => by
      have h1 := hel i hi
      rw [List.getElem?_eq_getElem (by omega)] at h1
      exact one i _ h1
    have all : ∀ m, m ≤ len → ∃ l : List N4, l.length = m ∧ ∀ i, i < m → ∀ j, j < 4 → W.cell? ((a.add (i * 4)).add j) = some (wordVal ((l.getD i N4.zero).get j)) := by
      intro m
      induction m with
      | zero => intro _; exact ⟨[], rfl, fun i hi => by omega⟩
      | succ m ih =>
        intro hm'
        obtain ⟨l, h1, h2⟩ := ih (by omega)
        obtain ⟨y, hy⟩ := each m (by omega)
        refine ⟨l ++ [y], by simp [h1], fun i hi j hj => ?_⟩
        by_cases e : i = m
        · subst e
          have : (l ++ [y]).getD i N4.zero = y := by simp [List.getD_eq_getElem?_getD, ← h1]
          rw [this]; exact hy j hj
        · have : (l ++ [y]).getD i N4.zero = l.getD i N4.zero := by
            rw [List.getD_eq_getElem?_getD, List.getD_eq_getElem?_getD, List.getElem?_append_left (by omega)]
          rw [this]; exact h2 i (by omega) j hj
    obtain ⟨l, hll, hcell⟩ := all len (Nat.le_refl _)
    refine ⟨l, ⟨[_], ⟨[_], [], rfl, ⟨_, rfl, ?_⟩, rfl⟩, rfl⟩, ?_⟩
    case refine_2 =>
      simp only [Prod.mk.injEq] at hx
      obtain ⟨rfl, rfl⟩ := hx
      exact .inr ⟨_, _, rfl, by simp [hll, hlen]⟩
    rw [hll]
    by_cases h0 : cap = 0
    · subst h0
      have : len = 0 := by omega
      subst this
      have : l = [] := List.eq_nil_of_length_eq_zero hll
      subst this
      exact .inr ⟨rfl, rfl, some a, rfl⟩
    · have hfirst : ∃ y : N4, ∀ j, j < 4 → W.cell? ((a.add (0 * 4)).add j) = some (wordVal (y.get j)) := by
        by_cases h1 : 0 < len
        · exact each 0 h1
        · have h2 := hr 0 (by omega)
          have h3 : len + 0 = 0 := by omega
          rw [h3, List.getElem?_eq_getElem (by omega)] at h2
          exact one 0 _ h2
      obtain ⟨y, hy⟩ := hfirst
      obtain ⟨hb, hs⟩ := cell_addr (hy 0 (by omega))
      obtain ⟨blk, off, sub⟩ := a
      simp [Addr.add] at hb hs
      subst hs
      refine .inl ⟨blk, off, cap, rfl, hl, hb, fun i u hu => ?_⟩
      have hi : i < 4 * l.length := by
        have := (List.getElem?_eq_some_iff.1 hu).1
        have h4 : (l.flatMap n4Vals).length = 4 * l.length := by
          have := PCells_length (i := .vn l.length l) (vs := l.flatMap n4Vals) (by simp [PCells])
          simpa [IV.size] using this
        omega
      rw [flat_get l i hi] at hu
      simp at hu
      subst hu
      have h5 := hcell (i / 4) (by omega) (i % 4) (Nat.mod_lt _ (by omega))
      rw [Addr_add_at, Addr_add_at] at h5
      have h6 : off + i / 4 * 4 + i % 4 = off + i := by omega
      rw [h6] at h5
      simpa using h5
end
end Go.Ev
