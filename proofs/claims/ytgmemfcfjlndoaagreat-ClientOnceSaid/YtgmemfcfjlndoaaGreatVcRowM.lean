/-
  From walks to rows, on: slices of structs opened.
-/
import Derived.Test.YtgmemfcfjlndoaaGreatVcRowU
import Derived.Test.YtgmemfcfjlndoaaGreatVcRowN
set_option linter.unusedVariables false
set_option linter.unusedSimpArgs false
namespace Go.Proofs.YtgmemfcfjlndoaaGreat
open Go Go.Vc Go.ChangeShapes Go.WideShapes Go.ChangeAt Go.RowKit Go.Proofs.YtgmemfcfjlndoaaGreat.Rows
section
variable {H : Type} {enc : TypeId × Value → H} {P : Program} {W : World}
/-- A slice of structs, in cells. -/
theorem cells_rows {β : Type} [Inhabited β] {n : Nat} (f : β → List Value) (d : β) (Q : β → DataW H → Prop) {t e : TypeId} {fuel : Nat} {cs : List Value} {x : DataW H × List MemPlace} (ht : P.underlying t = some (.slice e)) (ce : P.cellsOf e = n)
    (hel : ∀ (k : Nat) (us : List Value) (y : DataW H × List MemPlace), DataW.trod enc P W 0 (fun _ => true) true k e us = some y → ∃ b, us = f b ∧ Q b y.1)
    (h : DataW.trod enc P W 0 (fun _ => true) true fuel t cs = some x) :
    ∃ (s : Sl) (l : List β), cs = [s.val] ∧ CRow n f d W.heap s l ∧ (∀ j, j < l.length → ∃ D, Q (l.getD j d) D ∧ uptoBulk D ≤ uptoBulk x.1) ∧ l.length ≤ uptoBulk x.1 ∧ l.length ≤ 9223372036854775807 ∧ (x.1 = .nil ∧ l = [] ∨ ∃ Ds rest, x.1 = .slice Ds rest ∧ Ds.length = l.length ∧ ∀ j, j < l.length → Q (l.getD j d) (Ds.getD j .nil)) := by
  rcases Go.Deep.open_slice ht h with ⟨rfl, rfl⟩ | ⟨a, len, cap, m, k, D, Pl, rfl, _, hl, hm, hmm, rfl, hx⟩
  · exact ⟨Sl.nil, [], rfl, CRow.nil _, fun j hj => absurd hj (by simp), by simp, by simp, .inl ⟨rfl, rfl⟩⟩
  · simp only [if_true] at hmm
    have each : ∀ i, i < len → ∃ b : β, (∀ j v, (f b)[j]? = some v → hcell W.heap ((a.add (i * n)).add j) = some v) ∧ Q b (D i) := fun i hi => by
      obtain ⟨us, g0, g1⟩ := hx i (by omega)
      obtain ⟨b, e1, e2⟩ := hel _ _ _ g1
      rw [ce] at g0
      obtain ⟨_, hlen, hcell⟩ := World.cells?_some g0
      refine ⟨b, fun j v hj => ?_, e2⟩
      subst e1
      have hj' := (List.getElem?_eq_some_iff.1 hj).1
      have := hcell j (by omega)
      rw [← hj]
      exact this
    obtain ⟨q, hq⟩ := Go.Deep.choose_lt each
    have hg : ∀ j, j < len → ((List.range len).map q).getD j d = q j := fun j hj => by simp [List.getD_eq_getElem?_getD, List.getElem?_range, hj]
    have hb : ∀ j, j < len → uptoBulk (D j) ≤ uptoBulkAll ((List.range len).map D) := fun j hj => bulk_part (List.mem_map.2 ⟨j, List.mem_range.2 hj, rfl⟩)
    have hbs := bulk_slice (H := H) ((List.range len).map D) ((List.range (m - len)).map fun j => D (len + j))
    refine ⟨⟨some a, len, cap, fun h => (by cases h), hl⟩, (List.range len).map q, rfl, ⟨by simp, fun j hj i v hv => ?_⟩, fun j hj => ?_, ?_, by simp only [List.length_map, List.length_range]; simp only [maxLen] at hm; omega, .inr ⟨_, _, rfl, by simp, fun j hj => ?_⟩⟩
    · have hj' : j < len := by simpa using hj
      rw [hg j hj'] at hv
      have := (hq j hj').1 i v hv
      rw [Sl.cell_eq]
      simp only [Option.getD_some]
      rwa [← Go.Vc.add_add]
    · have hj' : j < len := by simpa using hj
      rw [hg j hj']
      exact ⟨D j, (hq j hj').2, Nat.le_trans (hb j hj') hbs⟩
    · have := bulk_len ((List.range len).map D)
      simp only [List.length_map, List.length_range] at this ⊢
      exact Nat.le_trans this hbs
    · have hj' : j < len := by simpa using hj
      rw [hg j hj']
      have e : ((List.range len).map D).getD j .nil = D j := by simp [List.getD_eq_getElem?_getD, List.getElem?_range, hj']
      rw [e]
      exact (hq j hj').2
end
end Go.Proofs.YtgmemfcfjlndoaaGreat
