/-
  The laws of layer 11, plain: shares in another order.
-/
import Derived.Test.YtccgbgjhjpllcaaVOpenK
set_option linter.unusedVariables false
set_option linter.unusedSimpArgs false
namespace Go.Proofs.Ytccgbgjhjpllcaa
open Go Go.Vc Go.Gf

theorem getD_take_mem {fl : List Int} {n : Nat} (hn : n < fl.length) : fl.getD n 0 ∈ fl.take n ↔ ∃ j, j < n ∧ fl.getD j 0 = fl.getD n 0 := by
  constructor
  · intro h
    obtain ⟨j, hj, e⟩ := (mem_getD (d := 0)).1 h
    simp only [List.length_take] at hj
    refine ⟨j, by omega, ?_⟩
    rw [← e]
    simp [List.getD_eq_getElem?_getD, List.getElem?_take, show j < n by omega]
  · rintro ⟨j, hj, e⟩
    refine (mem_getD (d := 0)).2 ⟨j, by simp; omega, ?_⟩
    rw [← e]
    simp [List.getD_eq_getElem?_getD, List.getElem?_take, hj]
theorem enough_iff {N m : Nat} {cols : Int} {fl : List Int} {rows : List (List UInt8)} :
    enoughP N m cols fl rows ↔ fl.length = rows.length ∧ m ≤ fl.length ∧ 0 ≤ cols ∧ (∀ x ∈ fl, 0 ≤ x ∧ x < N) ∧ fl.Nodup ∧ ∀ r ∈ rows, (r.length : Int) = cols := by
  constructor
  · rintro ⟨h1, h2, h3, h4⟩
    refine ⟨h1, h2, h3, fun x hx => ?_, ?_, fun r hr => ?_⟩
    · obtain ⟨i, hi, rfl⟩ := (mem_getD (d := 0)).1 hx
      exact ⟨(h4 i hi).1, (h4 i hi).2.1⟩
    · rw [List.Nodup, List.pairwise_iff_getElem]
      intro i j hi hj hij e
      refine (h4 j hj).2.2.1 ((getD_take_mem hj).2 ⟨i, hij, ?_⟩)
      simpa [List.getD_eq_getElem?_getD, hi, hj] using e
    · obtain ⟨i, hi, rfl⟩ := (mem_getD (d := [])).1 hr
      exact (h4 i (by omega)).2.2.2
  · rintro ⟨h1, h2, h3, h4, h5, h6⟩
    refine ⟨h1, h2, h3, fun n hn => ?_⟩
    have hx := h4 (fl.getD n 0) (mem_getD.2 ⟨n, hn, rfl⟩)
    refine ⟨hx.1, hx.2, fun hm => ?_, h6 _ (mem_getD.2 ⟨n, by omega, rfl⟩)⟩
    obtain ⟨j, hj, e⟩ := (getD_take_mem hn).1 hm
    rw [List.Nodup, List.pairwise_iff_getElem] at h5
    have hj' : j < fl.length := by omega
    exact h5 j n hj' hn hj (by simpa [List.getD_eq_getElem?_getD, hn, hj'] using e)
theorem enough_turn {N m : Nat} {cols : Int} {fl : List Int} {rows : List (List UInt8)} (k : Nat) (h : enoughP N m cols fl rows) : enoughP N m cols (fl.drop k ++ fl.take k) (rows.drop k ++ rows.take k) := by
  rw [enough_iff] at h ⊢
  obtain ⟨h1, h2, h3, h4, h5, h6⟩ := h
  have p1 := turn_perm fl k
  have p2 := turn_perm rows k
  refine ⟨by rw [← p1.length_eq, ← p2.length_eq]; exact h1, by rw [← p1.length_eq]; exact h2, h3, fun x hx => h4 x (p1.mem_iff.2 hx), p1.nodup_iff.1 h5, fun r hr => h6 r (p2.mem_iff.2 hr)⟩
theorem isFound_turn {N T K E : Nat} {cols : Int} {fl : List Int} {rows : List (List UInt8)} {hs : List Nat} {qs : List (List UInt8)} (k : Nat) (hN : N ≤ 255) (hT : T + K ≤ 256) (hE : E ≤ 255)
    (h : isFound N T K E cols fl rows hs qs) : isFound N T K E cols (fl.drop k ++ fl.take k) (rows.drop k ++ rows.take k) (hs.drop k ++ hs.take k) qs := by
  obtain ⟨rfl, h2, h3, h4⟩ := h
  have hl : hs.length = rows.length := by have := h3.1; simpa using this
  have hp : (hs.zip rows).Perm ((hs.drop k ++ hs.take k).zip (rows.drop k ++ rows.take k)) := by rw [zip_turn hl]; exact turn_perm _ _
  have hf := few_perm (turn_perm hs k) h2
  refine ⟨by rw [List.map_append, List.map_drop, List.map_take], hf, enough_turn k h3, ?_⟩
  have hle := h2.le
  exact found_perm hl (by simp; omega) hp (by omega) hE hN h2 hf (by omega) h4
theorem turn_turn {β : Type} (l : List β) {k : Nat} (hk : k ≤ l.length) : (l.drop k ++ l.take k).drop (l.length - k) ++ (l.drop k ++ l.take k).take (l.length - k) = l := by
  have hd : (l.drop k).length = l.length - k := by simp
  rw [← hd, List.drop_left, List.take_left, List.take_append_drop]
theorem isFound_back {N T K E : Nat} {cols : Int} {fl : List Int} {rows : List (List UInt8)} {hs : List Nat} {qs : List (List UInt8)} {k : Nat} (hk : k ≤ fl.length) (hl : fl.length = rows.length) (hN : N ≤ 255) (hT : T + K ≤ 256) (hE : E ≤ 255)
    (h : isFound N T K E cols (fl.drop k ++ fl.take k) (rows.drop k ++ rows.take k) hs qs) : ∃ hs', isFound N T K E cols fl rows hs' qs := by
  have := isFound_turn (fl.length - k) hN hT hE h
  rw [turn_turn fl hk] at this
  have h2 := turn_turn rows (k := k) (by omega)
  rw [← hl] at h2
  rw [h2] at this
  exact ⟨_, this⟩
theorem offs_turn {N : Nat} {hs : List Nat} {rows qs : List (List UInt8)} (k : Nat) (hl : hs.length = rows.length) : offs N hs rows qs = offs N (hs.drop k ++ hs.take k) (rows.drop k ++ rows.take k) qs :=
  offs_perm (by rw [zip_turn hl]; exact turn_perm _ _)
end Go.Proofs.Ytccgbgjhjpllcaa
