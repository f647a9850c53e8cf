/-
  Structs of five numbers, rows of numbers and of truths, that came in.
-/
import Derived.Test.YtccgbgjhjpllcaaVcRow5
import Derived.Deep.Grids
import Derived.Deep.Fields
import Derived.Test.YtccgbgjhjpllcaaVSort
set_option linter.unusedVariables false
set_option linter.unusedSimpArgs false
namespace Go.Vc
open Go.ChangeShapes Go.WideShapes Go.ChangeAt Go.RowKit Go.Proofs.Ytccgbgjhjpllcaa
/-- Five numbers that came in, as a struct. -/
theorem open_five {H : Type} {enc : TypeId × Value → H} {P : Program} {W : World} {r : Reach} {base t : Nat} {v : Value} {d : DataW H} {ps : List MemPlace} {fs : Array Field} (hu : P.underlying t = some (.struct fs)) (hc : P.cellsOf t = 5)
    (hone : ∀ (i : Nat) (f : Field), fs[i]? = some f → f.offset = i ∧ P.cellsOf f.type = 1) (hn : fs.size = 5) (hi : ∀ (i : Nat) (f : Field), fs[i]? = some f → P.underlying f.type = some (.int .i64))
    (hv : Value.okWide P W r base t v) (h : DataW.Trod enc P W 0 (fun _ => true) true t v d ps) :
    ∃ N T K E R : Int, v = .agg #[.int .i64 N, .int .i64 T, .int .i64 K, .int .i64 E, .int .i64 R] ∧ ∀ x ∈ [N, T, K, E, R], -9223372036854775808 ≤ x ∧ x ≤ 9223372036854775807 := by
  simp only [Value.okWide, hu] at hv
  obtain ⟨cs, rfl, hsz, _⟩ := hv
  obtain ⟨fuel, hf⟩ := h
  obtain ⟨xs, n, _, _, hl, hxl, hfld⟩ := DataW.trod_struct hu hf
  rw [hc] at hsz
  have each : ∀ i, i < 5 → ∃ z : Int, cs.toList[i]? = some (.int .i64 z) ∧ -9223372036854775808 ≤ z ∧ z ≤ 9223372036854775807 := by
    intro i hi5
    have hfi : fs[i]? = some fs[i] := Array.getElem?_eq_getElem (by omega)
    obtain ⟨ho, hc1⟩ := hone i _ hfi
    have g := hfld i _ hfi
    have hcl : (Value.agg cs).cells.toList = cs.toList := rfl
    have hlen : cs.toList.length = 5 := by simpa using hsz
    rw [ho, hc1, hcl, Go.Deep.take1_drop cs.toList i undef (by omega), List.getElem?_eq_getElem (by omega)] at g
    obtain ⟨z, e1, e2, e3⟩ := DataW.trod_int (hi i _ hfi) g
    simp only [List.cons.injEq, and_true] at e1
    refine ⟨z, ?_, int_of e3⟩
    rw [← e1]
    simp [List.getD_eq_getElem?_getD, List.getElem?_eq_getElem (show i < cs.toList.length by omega)]
  obtain ⟨N, a0, b0⟩ := each 0 (by omega)
  obtain ⟨T, a1, b1⟩ := each 1 (by omega)
  obtain ⟨K, a2, b2⟩ := each 2 (by omega)
  obtain ⟨E, a3, b3⟩ := each 3 (by omega)
  obtain ⟨R, a4, b4⟩ := each 4 (by omega)
  refine ⟨N, T, K, E, R, ?_, fun x hx => ?_⟩
  · congr 1
    apply Array.ext'
    have hlen : cs.toList.length = 5 := by simpa using hsz
    refine List.ext_getElem? fun i => ?_
    match i with
    | 0 => rw [a0]; rfl
    | 1 => rw [a1]; rfl
    | 2 => rw [a2]; rfl
    | 3 => rw [a3]; rfl
    | 4 => rw [a4]; rfl
    | n + 5 => rw [List.getElem?_eq_none (by omega)]; rfl
  · simp only [List.mem_cons, List.not_mem_nil, or_false] at hx
    rcases hx with rfl | rfl | rfl | rfl | rfl <;> assumption
/-- A slice of numbers that came in. -/
theorem open_numbers {H : Type} {enc : TypeId × Value → H} {P : Program} {W : World} {base t e : Nat} {v : Value} {d : DataW H} {ps : List MemPlace} (ht : P.underlying t = some (.slice e)) (he : P.underlying e = some (.int .i64)) (hc : P.cellsOf e = 1) (hbt : P.bytesOf e = 8)
    (hv : Value.okWide P W .any base t v) (h : DataW.Trod enc P W 0 (fun _ => true) true t v d ps)
    {ts : List TypeId} {ds : List (DataW H)} (hsz : (DataW.weightsEach P ts ds).all (· ≤ reachBytes) = true) {j : Nat} (hj : ts[j]? = some t) (hd : ds[j]? = some d) :
    ∃ (s : Sl) (l : List Int), v = s.val ∧ RowF IV 0 W.heap s l ∧ l.length * 8 ≤ 140737488351232 := by
  obtain ⟨a0, len, cap, rfl⟩ := okWide_slice ht hv
  obtain ⟨fuel, hf⟩ := h
  rcases open_ints ht he hc hf with ⟨hcs, hx⟩ | ⟨a, len', cap', zs, hcs, _, hl, hm, hz, hx, hcell, hwz⟩
  · simp [Value.cells] at hcs
    obtain ⟨rfl, rfl, rfl⟩ := hcs
    exact ⟨Sl.nil, [], rfl, RowF.nil _, by simp⟩
  · simp [Value.cells] at hcs
    obtain ⟨rfl, rfl, rfl⟩ := hcs
    simp only [Prod.mk.injEq] at hx
    obtain ⟨rfl, rfl⟩ := hx
    simp only [if_true] at hz
    have hreach : cap * 8 ≤ 140737488351232 := by
      have := sized_slice hsz (j := j) (t := t) (e := e) hj hd ht
      rw [hbt] at this
      simp only [lits, List.length_map, List.length_take, List.length_drop, reachBytes] at this
      omega
    refine ⟨⟨some a, len, cap, fun h => (by cases h), hl⟩, zs.take len, rfl, ⟨by simp; omega, fun k hk => ?_⟩, by simp; omega⟩
    have hk1 : k < len := by simp at hk; omega
    have hkz : k < zs.length := by omega
    have h1 := hcell k hkz
    rw [Sl.cell_eq]
    simp only [Option.getD_some]
    have hg : (zs.take len).getD k 0 = zs.getD k 0 := by
      simp [List.getD_eq_getElem?_getD, List.getElem?_take, hk1]
    rw [hg]
    exact h1
/-- A slice of truths that came in. -/
theorem open_truths {H : Type} {enc : TypeId × Value → H} {P : Program} {W : World} {base t e : Nat} {v : Value} {d : DataW H} {ps : List MemPlace} (ht : P.underlying t = some (.slice e)) (he : P.underlying e = some .bool) (hc : P.cellsOf e = 1)
    (hv : Value.okWide P W .any base t v) (h : DataW.Trod enc P W 0 (fun _ => true) true t v d ps) :
    ∃ (s : Sl) (l : List Bool), v = s.val ∧ RowF Value.bool false W.heap s l ∧ l.length ≤ 9223372036854775807 := by
  obtain ⟨a0, len, cap, rfl⟩ := okWide_slice ht hv
  obtain ⟨fuel, hf⟩ := h
  rcases Go.Deep.open_bools ht he hc hf with ⟨hcs, hx⟩ | ⟨a, len', cap', B, hcs, _, hl, hm, hx, hcell⟩
  · simp [Value.cells] at hcs
    obtain ⟨rfl, rfl, rfl⟩ := hcs
    exact ⟨Sl.nil, [], rfl, RowF.nil _, by simp⟩
  · simp [Value.cells] at hcs
    obtain ⟨rfl, rfl, rfl⟩ := hcs
    refine ⟨⟨some a, len, cap, fun h => (by cases h), hl⟩, (List.range len).map B, rfl, ⟨by simp, fun k hk => ?_⟩, by simp [maxLen] at hm ⊢; omega⟩
    have hk1 : k < len := by simpa using hk
    have h1 := hcell k (by omega)
    rw [Sl.cell_eq]
    simp only [Option.getD_some]
    have hg : ((List.range len).map B).getD k false = B k := by
      simp [List.getD_eq_getElem?_getD, List.getElem?_range, hk1]
    rw [hg]
    exact h1
/-- A slice of slices of bytes that came in, whose weight is bounded. -/
theorem open_brows8 {H : Type} {enc : TypeId × Value → H} {P : Program} {W : World} {t e q : TypeId} {v : Value} {d : DataW H} {ps : List MemPlace} (ht : P.underlying t = some (.slice e)) (he : P.underlying e = some (.slice q)) (hq : P.underlying q = some (.int .u8)) (ce : P.cellsOf e = 1) (cq : P.cellsOf q = 1) (hbt : P.bytesOf e = 24)
    (hv : ∃ a0 len cap, v = .slice a0 len cap) (h : DataW.Trod enc P W 0 (fun _ => true) true t v d ps)
    {ts : List TypeId} {ds : List (DataW H)} (hsz : (DataW.weightsEach P ts ds).all (· ≤ reachBytes) = true) {j : Nat} (hj : ts[j]? = some t) (hd : ds[j]? = some d) :
    ∃ (s : Sl) (ss : List Sl) (ls : List (List UInt8)), v = s.val ∧ BRows W.heap s ss ls ∧ ls.length * 24 ≤ 140737488351232 := by
  have hlen : ∀ a0 len cap, v = .slice a0 len cap → len * 24 ≤ 140737488351232 := by
    rintro a0 len cap rfl
    obtain ⟨fuel, hf⟩ := h
    rcases Go.Deep.open_int_rows ht he hq ce cq hf with ⟨hcs, hx⟩ | ⟨a, len', cap', A, L, C, Z, hcs, _, hl, hm, hx, hr⟩
    · simp [Value.cells] at hcs
      obtain ⟨rfl, rfl, rfl⟩ := hcs
      simp
    · simp [Value.cells] at hcs
      obtain ⟨rfl, rfl, rfl⟩ := hcs
      simp only [Prod.mk.injEq] at hx
      obtain ⟨rfl, _⟩ := hx
      have := sized_slice hsz (j := j) (t := t) (e := e) hj hd ht
      rw [hbt] at this
      simp only [List.length_map, List.length_range, reachBytes] at this
      omega
  obtain ⟨s, ss, ls, rfl, hb, _⟩ := open_brows ht he hq ce cq hv h
  refine ⟨s, ss, ls, rfl, hb, ?_⟩
  have := hlen _ _ _ rfl
  have h1 := hb.row.len
  have h2 := hb.len
  omega
end Go.Vc
