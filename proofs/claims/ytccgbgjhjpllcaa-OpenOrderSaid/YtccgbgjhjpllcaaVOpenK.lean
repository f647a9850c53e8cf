/-
  The laws of layer 11, walked: known answers, plain.
-/
import Derived.Test.YtccgbgjhjpllcaaVOpen5
set_option linter.unusedVariables false
set_option linter.unusedSimpArgs false
namespace Go.Proofs.Ytccgbgjhjpllcaa
open Go Go.Vc Go.Gf

theorem kn1 : tl [7] = [7] ∧ deg1 [7] = 1 ∧ wrongL [7] [1, 2, 3, 4, 5] [7, 7, 8, 7, 7] 5 = [2] ∧ wrongL [7] [1, 2, 3] [7, 7, 8] 3 = [2] ∧ ptsN [0, 1, 2, 3, 4] = [1, 2, 3, 4, 5] ∧ ptsN [0, 1, 2] = [1, 2, 3] ∧ columns 1 1 = 1 ∧ docL 5 1 1 [[7]] = [7] := by decide +kernel
theorem unlike_small : unlike [1, 2, 3, 4, 5] ∧ unlike [1, 2, 3] := by
  constructor
  · intro i hi j hj
    have : ∀ i : Fin 5, ∀ j : Fin 5, j.val < i.val → ([1, 2, 3, 4, 5] : List UInt8).getD i.val 0 ≠ ([1, 2, 3, 4, 5] : List UInt8).getD j.val 0 := by decide
    exact this ⟨i, hi⟩ ⟨j, by simp at hi; omega⟩ hj
  · intro i hi j hj
    have : ∀ i : Fin 3, ∀ j : Fin 3, j.val < i.val → ([1, 2, 3] : List UInt8).getD i.val 0 ≠ ([1, 2, 3] : List UInt8).getD j.val 0 := by decide
    exact this ⟨i, hi⟩ ⟨j, by simp at hi; omega⟩ hj
def knRows : List (List UInt8) := [[7], [7], [8], [7], [7]]
theorem kn_few : Few 5 [0, 1, 2, 3, 4] := few_iff.2 ⟨by decide, by decide⟩
theorem kn_found : isFound 5 1 1 1 ((columns 1 1 : Nat) : Int) [0, 1, 2, 3, 4] knRows [0, 1, 2, 3, 4] [[7]] := by
  obtain ⟨h1, h2, h3, h4, h5, h6, h7, h8⟩ := kn1
  refine ⟨rfl, kn_few, ⟨rfl, by decide, by omega, ?_⟩, ⟨by rw [h7]; rfl, fun c hc => ?_⟩⟩
  · have : ∀ n : Fin 5, 0 ≤ ([0, 1, 2, 3, 4] : List Int).getD n.val 0 ∧ ([0, 1, 2, 3, 4] : List Int).getD n.val 0 < 5 ∧ ([0, 1, 2, 3, 4] : List Int).getD n.val 0 ∉ ([0, 1, 2, 3, 4] : List Int).take n.val ∧ ((knRows.getD n.val []).length : Int) = 1 := by decide
    intro n hn
    rw [h7]
    exact this ⟨n, hn⟩
  · rw [h7] at hc
    have hc0 : c = 0 := by simp at hc; omega
    subst hc0
    rw [h5]
    exact ⟨rfl, by decide, unlike_small.1, by decide, by decide, by decide, by decide, h1, by show (deg1 [7] : Int) ≤ _; rw [h2]; decide, by show ((wrongL [7] [1, 2, 3, 4, 5] [7, 7, 8, 7, 7] 5).length : Int) ≤ _; rw [h3]; decide,
      by show ((wrongL [7] [1, 2, 3, 4, 5] [7, 7, 8, 7, 7] 5).length : Int) + ((1 + 1 - 1 : Nat) : Int) + 1 + ((1 : Nat) : Int) ≤ ((5 : Nat) : Int); rw [h3]; decide⟩
theorem kn_off : offs 5 [0, 1, 2, 3, 4] knRows [[7]] = [2] := by
  obtain ⟨h1, h2, h3, h4, h5, h6, h7, h8⟩ := kn1
  refine rising_eq (offs_rising _ _ _ _) (by simp) fun x => ?_
  rw [offs_mem, off_iff rfl]
  have e : ∀ c, c < 1 → wrongL ([[7]].getD c []) (ptsN [0, 1, 2, 3, 4]) (colN knRows c) 5 = [2] := fun c hc => by
    have : c = 0 := by omega
    subst this
    rw [h5]; exact h3
  constructor
  · rintro ⟨hx, c, hc, i, hi, rfl⟩
    rw [show [0, 1, 2, 3, 4].length = 5 from rfl, e c hc] at hi
    simp at hi; subst hi; simp
  · intro hx
    simp at hx; subst hx
    refine ⟨by omega, 0, by simp, 2, ?_, rfl⟩
    rw [show [0, 1, 2, 3, 4].length = 5 from rfl, e 0 (by omega)]
    simp
theorem kn_none (hs : List Nat) (qs : List (List UInt8)) : ¬ isFound 5 1 1 1 ((columns 1 1 : Nat) : Int) [0, 1, 2] [[7], [7], [8]] hs qs := by
  obtain ⟨h1, h2, h3, h4, h5, h6, h7, h8⟩ := kn1
  rintro ⟨e, _, _, hf⟩
  have e2 : hs = [0, 1, 2] := by
    have := congrArg (List.map Int.toNat) e
    simpa [List.map_map, Function.comp_def] using this.symm
  subst e2
  have hg := hf.good 0 (by rw [h7]; decide)
  rw [h6] at hg
  generalize qs.getD 0 [] = q at hg
  obtain ⟨_, _, _, _, _, _, _, g1, g2, g3, g4⟩ := hg
  have g4 : ((wrongL q [1, 2, 3] [7, 7, 8] 3).length : Int) + 1 + 1 + 1 ≤ 3 := g4
  have g2 : (deg1 q : Int) ≤ 1 + 1 := g2
  have := agree_two (n := 2) (p := [7]) (q := q) (xs := [1, 2, 3]) (ys := [7, 7, 8]) unlike_small.2 (by rw [h2]; omega) (by omega) (by
    show (wrongL [7] [1, 2, 3] [7, 7, 8] 3).length + (wrongL q [1, 2, 3] [7, 7, 8] 3).length + 2 ≤ 3
    rw [h4]; simp; omega)
  rw [h1, g1] at this
  subst this
  rw [h4] at g4
  simp at g4
theorem isFound.hs {N T K E : Nat} {cols : Int} {fl : List Int} {rows : List (List UInt8)} {hs : List Nat} {qs : List (List UInt8)} (h : isFound N T K E cols fl rows hs qs) : hs = fl.map Int.toNat := by
  rw [h.1, List.map_map]
  simp [Function.comp_def]
theorem isFound.one {N T K E : Nat} {cols : Int} {fl : List Int} {rows : List (List UInt8)} {hs hs' : List Nat} {qs qs' : List (List UInt8)} (h : isFound N T K E cols fl rows hs qs) (h' : isFound N T K E cols fl rows hs' qs') : hs = hs' ∧ qs = qs' := by
  have e : hs = hs' := h.hs.trans h'.hs.symm
  subst e
  exact ⟨rfl, h.2.2.2.one h'.2.2.2⟩
theorem brows_of {H : Heap} {s : Sl} {ss : List Sl} {ls : List (List UInt8)} (h : RowF Sl.val Sl.nil H s ss) (hl : ss.length = ls.length) (hb : ∀ k, k < ls.length → Bytes H (ss.getD k Sl.nil) (ls.getD k [])) : BRows H s ss ls := ⟨h, hl, hb⟩
end Go.Proofs.Ytccgbgjhjpllcaa
