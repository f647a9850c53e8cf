/-
  Whole numbers, sorted, each once: the library's word turned to heaps.
-/
import Derived.Test.YtaikdcnifijcoaaGreatVcShelf
import Derived.Test.YtaikdcnifijcoaaGreatVcRun
import Derived.Test.YtaikdcnifijcoaaGreatVcCore
import Derived.Sort.OwnSortedInts
set_option linter.unusedVariables false
set_option linter.unusedSimpArgs false
namespace Go.Proofs.YtaikdcnifijcoaaGreat
open Go Go.Vc Go.Sort Go.RowKit
abbrev IV (n : Int) : Value := .int .i64 n
theorem callable_of {P : Program} {f : FuncId} {fn : Func} {c : Code} (hf : P.funcs[f]? = some fn) (hb : fn.body = some c) (hname : (fn.name == "runtime.NumGoroutine") = false) : Callable P f := fun xs w => by
  have hne : ¬fn.name = "runtime.NumGoroutine" := by simpa using hname
  simp [callFunc, program, Sem.run, hf, hne, hb]
def sorted (l : List Int) : List Int := l.mergeSort fun x y => decide (x ≤ y)
theorem sorted_length (l : List Int) : (sorted l).length = l.length := by simp [sorted]
theorem sorted_mem (l : List Int) (x : Int) : x ∈ sorted l ↔ x ∈ l := by simp [sorted]
theorem sorted_pair (l : List Int) : (sorted l).Pairwise (· ≤ ·) := by
  have := List.pairwise_mergeSort (le := fun (x y : Int) => decide (x ≤ y)) (fun a b c h1 h2 => by simp at *; omega) (fun a b => by simp; omega) l
  simpa [sorted] using this
theorem sortI_ok (s : Sl) (l : List Int) (base e : Nat) (H : Heap) (hs : OwnF IV H base e s l) (hl : l.length < 4611686018427387904) :
    CallsH Tryz.prog 179 [s.val] H fun v H' => OwnF IV H' base e s (sorted l) ∧ Chg (fun b => s.blk = some b) H H' := by
  refine ⟨callable_of Tryz.func179 rfl rfl, fun w hw => ?_⟩
  subst hw
  obtain ⟨h1, h2⟩ := id hs
  rw [List.length_map, Nat.mul_one] at h1
  rcases h2 with h2 | ⟨g, cur, ha, hb, hh, hlc, hm, hc, ht⟩
  · obtain ⟨h3, h4⟩ := s.ok h2
    have hl0 : l = [] := List.eq_nil_of_length_eq_zero (by omega)
    subst hl0
    have e1 : s.val = .slice s.ao 0 s.cap := by rw [Sl.val, h3]
    show Calls _ _ #[s.val] w _
    rw [e1]
    refine (Tryz.slices_Sort_int_none s.ao s.cap w).mono ?_
    rintro _ _ ⟨rfl, rfl⟩
    exact ⟨_, rfl, Sim.refl _, by simpa [sorted] using hs, Chg.refl _ _⟩
  · have e1 : s.val = .slice (some ⟨g, 0, none⟩) l.length s.cap := by rw [Sl.val, ha, h1]
    rw [Nat.mul_one, ← h1] at ht
    have hH := holds_of_blockI hh ht
    show Calls _ _ #[s.val] w _
    rw [e1]
    refine (Tryz.slices_Sort_int g 0 s.cap l w hH (Array.getElem?_eq_some_iff.1 hh).1 hl).mono ?_
    rintro _ _ ⟨rfl, n, os, rfl⟩
    refine ⟨_, rfl, ⟨rfl, rfl, rfl⟩, ⟨?_, .inr ⟨g, _, ha, hb, heap_sortedI _ hh, hlc, hm, by simp [putCells, hc], ?_⟩⟩, ⟨by simp, fun k hk hne => ?_⟩⟩
    · rw [List.length_map, sorted_length, Nat.mul_one, h1]
    · rw [Nat.mul_one, ← h1, ← sorted_length l]
      exact take_putCellsI cur (sorted l) (by rw [sorted_length]; omega)
    · rw [heap_grow_old _ _ (by simpa using hk)]
      have : g ≠ k := fun e => hne (by simp [Sl.blk, ha, e])
      simp [putRow, mapBlock, Sort.ahead, Array.getElem?_modify, this]
theorem compact_upto (d : Array Int) (hd : ∀ i j, i ≤ j → j < d.size → d[i]! ≤ d[j]!) : ∀ m, m ≤ d.size → (Lib.compactUpTo d m).Pairwise (· < ·) ∧ ∀ x, x ∈ Lib.compactUpTo d m ↔ ∃ j, j < m ∧ d[j]! = x
  | 0, _ => by simp [Lib.compactUpTo]
  | m + 1, hm => by
    obtain ⟨h1, h2⟩ := compact_upto d hd m (by omega)
    rw [Lib.compactUpTo_succ]
    cases hk : Lib.keeps d m with
    | true =>
      rw [if_pos rfl]
      have hk' : m = 0 ∨ d[m]! ≠ d[m - 1]! := by simpa [Lib.keeps] using hk
      refine ⟨List.pairwise_append.2 ⟨h1, by simp, fun a ha b hb => ?_⟩, fun x => ?_⟩
      · simp only [List.mem_singleton] at hb
        subst hb
        obtain ⟨j, hj, rfl⟩ := (h2 a).1 ha
        have h3 := hd j (m - 1) (by omega) (by omega)
        have h4 := hd (m - 1) m (by omega) (by omega)
        rcases hk' with e | e
        · omega
        · omega
      · rw [List.mem_append, h2, List.mem_singleton]
        constructor
        · rintro (⟨j, hj, e⟩ | e)
          · exact ⟨j, by omega, e⟩
          · exact ⟨m, by omega, e.symm⟩
        · rintro ⟨j, hj, e⟩
          by_cases e' : j = m
          · subst e'; exact .inr e.symm
          · exact .inl ⟨j, by omega, e⟩
    | false =>
      rw [if_neg (by simp), List.append_nil]
      have hk' : ¬ (m = 0 ∨ d[m]! ≠ d[m - 1]!) := by
        intro h; rw [Lib.keeps, decide_eq_true h] at hk; cases hk
      refine ⟨h1, fun x => ?_⟩
      rw [h2]
      constructor
      · rintro ⟨j, hj, e⟩; exact ⟨j, by omega, e⟩
      · rintro ⟨j, hj, e⟩
        by_cases e' : j = m
        · subst e'
          have h5 : d[j]! = d[j - 1]! := Classical.not_not.1 fun h => hk' (.inr h)
          exact ⟨j - 1, by omega, by rw [← h5]; exact e⟩
        · exact ⟨j, by omega, e⟩
theorem rise_int (l : List Int) : (Lib.compact (sorted l)).Pairwise (· < ·) ∧ ∀ x, x ∈ Lib.compact (sorted l) ↔ x ∈ l := by
  have hp := sorted_pair l
  rw [List.pairwise_iff_getElem] at hp
  have hg : ∀ j, j < (sorted l).length → (sorted l).toArray[j]! = (sorted l).getD j 0 := fun j hj => by
    simp [List.getD_eq_getElem?_getD, hj]
  obtain ⟨h1, h2⟩ := compact_upto (sorted l).toArray (fun i j hij hj => by
    have hj' : j < (sorted l).length := by simpa using hj
    rw [hg i (by omega), hg j hj']
    by_cases e : i = j
    · subst e; exact Int.le_refl _
    · have := hp i j (by omega) hj' (by omega)
      simpa [List.getD_eq_getElem?_getD, hj', show i < (sorted l).length by omega] using this) (sorted l).length (by simp)
  refine ⟨h1, fun x => (h2 x).trans ?_⟩
  rw [← sorted_mem l x, List.mem_iff_getElem]
  constructor
  · rintro ⟨j, hj, e⟩
    rw [hg j hj] at e
    exact ⟨j, hj, by simpa [List.getD_eq_getElem?_getD, hj] using e⟩
  · rintro ⟨j, hj, e⟩
    refine ⟨j, hj, ?_⟩
    rw [hg j hj]
    simpa [List.getD_eq_getElem?_getD, hj] using e
/-- Numbers of nought or more: so are what comes of them. -/
theorem rise_nat (l : List Nat) : ∃ L : List Nat, Lib.compact (sorted (l.map fun (n : Nat) => (n : Int))) = L.map (fun (n : Nat) => (n : Int)) ∧ L.Pairwise (· < ·) ∧ ∀ x, x ∈ L ↔ x ∈ l := by
  obtain ⟨h1, h2⟩ := rise_int (l.map fun (n : Nat) => (n : Int))
  generalize Lib.compact (sorted (l.map fun (n : Nat) => (n : Int))) = m at h1 h2
  have hm : (m.map Int.toNat).map (fun (n : Nat) => (n : Int)) = m := by
    rw [List.map_map]
    refine (List.map_congr_left (g := id) fun a ha => ?_).trans (List.map_id _)
    obtain ⟨n, _, rfl⟩ := List.mem_map.1 ((h2 a).1 ha)
    simp
  refine ⟨m.map Int.toNat, hm.symm, ?_, fun x => ?_⟩
  · have h3 : ((m.map Int.toNat).map (fun (n : Nat) => (n : Int))).Pairwise (· < ·) := by rw [hm]; exact h1
    rw [List.pairwise_map] at h3
    exact h3.imp fun h => by omega
  · have h4 := h2 (x : Int)
    rw [← hm, List.mem_map, List.mem_map] at h4
    constructor
    · intro hx
      obtain ⟨n, hn, e⟩ := h4.1 ⟨x, hx, rfl⟩
      have : n = x := by omega
      exact this ▸ hn
    · intro hx
      obtain ⟨n, hn, e⟩ := h4.2 ⟨x, hx, rfl⟩
      have : n = x := by omega
      exact this ▸ hn
theorem compact_le (l : List Int) : (Lib.compact l).length ≤ l.length := by
  unfold Lib.compact Lib.compactUpTo
  rw [List.length_map]
  exact Nat.le_trans (List.length_filter_le _ _) (by simp)
theorem compactI_ok (s : Sl) (l : List Int) (base e : Nat) (H : Heap) (hs : OwnF IV H base e s l) (hl : l.length ≤ 9223372036854775807) :
    CallsH Tryz.prog 185 [s.val] H fun v H' => (∃ s' : Sl, v = s'.val ∧ OwnF IV H' base e s' (Lib.compact l) ∧ s'.blk = s.blk) ∧ Chg (fun b => s.blk = some b) H H' := by
  refine ⟨callable_of Tryz.func185 rfl rfl, fun w hw => ?_⟩
  subst hw
  obtain ⟨h1, h2⟩ := id hs
  rw [List.length_map, Nat.mul_one] at h1
  rcases h2 with h2 | ⟨g, cur, ha, hb, hh, hlc, hm, hc, ht⟩
  · obtain ⟨h3, h4⟩ := s.ok h2
    have hl0 : l = [] := List.eq_nil_of_length_eq_zero (by omega)
    subst hl0
    have e1 : s.val = .slice s.ao 0 s.cap := by rw [Sl.val, h3]
    show Calls _ _ #[s.val] w _
    rw [e1]
    refine (Tryz.slices_Compact_int_empty s.ao s.cap w).mono ?_
    rintro _ _ ⟨rfl, rfl⟩
    exact ⟨_, rfl, Sim.refl _, ⟨s, e1.symm, hs, rfl⟩, Chg.refl _ _⟩
  · have e1 : s.val = .slice (some ⟨g, 0, none⟩) l.length s.cap := by rw [Sl.val, ha, h1]
    rw [Nat.mul_one, ← h1] at ht
    have hH := holds_of_blockI hh ht
    have hcl := compact_le l
    show Calls _ _ #[s.val] w _
    rw [e1]
    refine (Tryz.slices_Compact_int g 0 s.cap l w hH hl (by omega)).mono ?_
    rintro _ _ ⟨rfl, n, rfl⟩
    have hsz : (Lib.compact l ++ List.replicate (l.length - (Lib.compact l).length) 0).length = l.length := by simp; omega
    have hh' := heap_sortedI (os := #[]) (n := n) (w := w) (Lib.compact l ++ List.replicate (l.length - (Lib.compact l).length) 0).toArray hh
    rw [grow_empty] at hh'
    refine ⟨_, rfl, ⟨rfl, rfl, rfl⟩, ⟨⟨some ⟨g, 0, none⟩, (Lib.compact l).length, s.cap, fun h => (by cases h), by omega⟩, rfl, ⟨by simp, .inr ⟨g, _, rfl, hb, hh', by simp only; omega, hm, by simp [putCells, hc], ?_⟩⟩, by simp [Sl.blk, ha]⟩, ⟨by simp [putRow, mapBlock, Sort.ahead], fun k hk hne => ?_⟩⟩
    · have h5 := take_putCellsI cur (Lib.compact l ++ List.replicate (l.length - (Lib.compact l).length) 0) (by rw [hsz]; omega)
      rw [hsz] at h5
      have h6 := congrArg (List.take (Lib.compact l).length) h5
      rw [List.take_take, Nat.min_eq_left hcl, ← List.map_take, List.take_left] at h6
      simpa using h6
    · have : g ≠ k := fun e => hne (by simp [Sl.blk, ha, e])
      simp [putRow, mapBlock, Sort.ahead, Array.getElem?_modify, this]
end Go.Proofs.YtaikdcnifijcoaaGreat
