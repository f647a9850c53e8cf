/-
  Counting, plain: so many places are unlike places; polynomials that agree at enough of them.
-/
import Derived.Test.YtccgbgjhjpllcaaVInterp
set_option linter.unusedVariables false
set_option linter.unusedSimpArgs false
namespace Go.Gf
/-- How many of the first k numbers have a property? -/
def cntP (p : Nat → Bool) : Nat → Nat
  | 0 => 0
  | k + 1 => cntP p k + (if p k then 1 else 0)
theorem cntP_le (p : Nat → Bool) : ∀ k, cntP p k ≤ k
  | 0 => Nat.le_refl _
  | k + 1 => by have := cntP_le p k; rw [cntP]; split <;> omega
theorem cntP_congr {p q : Nat → Bool} : ∀ {k : Nat}, (∀ i, i < k → p i = q i) → cntP p k = cntP q k
  | 0, _ => rfl
  | k + 1, h => by rw [cntP, cntP, cntP_congr fun i hi => h i (by omega), h k (by omega)]
theorem cntP_mono {p q : Nat → Bool} : ∀ {k : Nat}, (∀ i, i < k → p i = true → q i = true) → cntP p k ≤ cntP q k
  | 0, _ => Nat.le_refl _
  | k + 1, h => by
    have := cntP_mono (k := k) fun i hi => h i (by omega)
    rw [cntP, cntP]
    have h1 := h k (by omega)
    cases hp : p k with
    | false => simp; omega
    | true => rw [h1 hp]; simp; omega
theorem cntP_not (p : Nat → Bool) : ∀ k, cntP p k + cntP (fun i => !p i) k = k
  | 0 => rfl
  | k + 1 => by
    have := cntP_not p k
    rw [cntP, cntP]
    cases hp : p k <;> simp <;> omega
/-- Of a property and another one: where both are. -/
theorem cntP_and (p q : Nat → Bool) : ∀ k, cntP p k + cntP q k ≤ cntP (fun i => p i && q i) k + k
  | 0 => Nat.le_refl _
  | k + 1 => by
    have := cntP_and p q k
    have e1 : cntP p (k + 1) = cntP p k + (if p k then 1 else 0) := rfl
    have e2 : cntP q (k + 1) = cntP q k + (if q k then 1 else 0) := rfl
    have e3 : cntP (fun i => p i && q i) (k + 1) = cntP (fun i => p i && q i) k + (if (p k && q k) = true then 1 else 0) := rfl
    rw [e1, e2, e3]
    generalize cntP (fun i => p i && q i) k = m at *
    cases hp : p k <;> cases hq : q k <;> simp <;> omega
theorem cntP_pick (p : Nat → Bool) : ∀ k, ∃ z : Nat → Nat, (∀ i, i < cntP p k → z i < k ∧ p (z i) = true) ∧ ∀ i j, i < j → j < cntP p k → z i < z j
  | 0 => ⟨fun _ => 0, fun i h => absurd h (by simp [cntP]), fun i j _ h => absurd h (by simp [cntP])⟩
  | k + 1 => by
    obtain ⟨z, h1, h2⟩ := cntP_pick p k
    rw [cntP]
    cases hp : p k with
    | false =>
      simp only [Bool.false_eq_true, if_false, Nat.add_zero]
      exact ⟨z, fun i hi => ⟨by have := (h1 i hi).1; omega, (h1 i hi).2⟩, h2⟩
    | true =>
      simp only [if_true]
      refine ⟨fun i => if i < cntP p k then z i else k, fun i hi => ?_, fun i j hij hj => ?_⟩
      · by_cases h : i < cntP p k
        · simp only [h, if_true]; exact ⟨by have := (h1 i h).1; omega, (h1 i h).2⟩
        · simp only [h, if_false]; exact ⟨by omega, hp⟩
      · have hi : i < cntP p k := by omega
        simp only [hi, if_true]
        by_cases h : j < cntP p k
        · simp only [h, if_true]; exact h2 i j hij h
        · simp only [h, if_false]; exact (h1 i hi).1
/-- Two polynomials agree at how many points. -/
def agree (p q xs : List UInt8) : Nat := cntP (fun i => decide (hor (xs.getD i 0) p = hor (xs.getD i 0) q)) xs.length
theorem agree_one {p q xs : List UInt8} {n : Nat} (hu : unlike xs) (hp : deg1 p ≤ n) (hq : deg1 q ≤ n) (h : n ≤ agree p q xs) : tl p = tl q := by
  obtain ⟨z, h1, h2⟩ := cntP_pick (fun i => decide (hor (xs.getD i 0) p = hor (xs.getD i 0) q)) xs.length
  refine one_poly (z := fun i => xs.getD (z i) 0) hp hq (fun i j hi hj hne => ?_) fun i hi => of_decide_eq_true (h1 i (Nat.lt_of_lt_of_le hi h)).2
  have hi' := (h1 i (Nat.lt_of_lt_of_le hi h)).1
  have hj' := (h1 j (Nat.lt_of_lt_of_le hj h)).1
  refine unlike_ne hu hi' hj' fun e => ?_
  rcases Nat.lt_or_gt_of_ne hne with hl | hl
  · have := h2 i j hl (Nat.lt_of_lt_of_le hj h); omega
  · have := h2 j i hl (Nat.lt_of_lt_of_le hi h); omega
theorem agN_cnt (p xs ys : List UInt8) : ∀ k, agN p xs ys k = cntP (fun i => decide (hor (xs.getD i 0) p = ys.getD i 0)) k
  | 0 => rfl
  | k + 1 => by
    rw [agN, cntP, agN_cnt p xs ys k]
    by_cases h : hor (xs.getD k 0) p = ys.getD k 0
    · rw [if_pos h, decide_eq_true h, if_pos rfl]
    · rw [if_neg h, decide_eq_false h]; rfl
/-- The polynomial through values of a polynomial is that polynomial. -/
theorem rthrN_back {p xs ys : List UInt8} (hu : unlike xs) (hp : deg1 p ≤ xs.length) (h : ∀ i, i < xs.length → ys.getD i 0 = hor (xs.getD i 0) p) : rthrN xs ys xs.length = tl p := by
  rw [← tl_rthrN xs ys xs.length]
  refine one_poly (n := xs.length) (z := fun i => xs.getD i 0) ?_ hp (fun i j hi hj hne => unlike_ne hu hi hj hne) fun i hi => ?_
  · have := rthrN_len (xs := xs) (ys := ys) xs.length (Nat.le_refl _)
    have := deg1_le (rthrN xs ys xs.length)
    omega
  · rw [hor_rthrN hu hi _ (Nat.le_refl _), if_pos hi, h i hi]
end Go.Gf
