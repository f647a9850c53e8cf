/-
  Division of polynomials, plain: the rounds that the program takes.
-/
import Derived.Test.YtccgbgjhjpllcaaVPolyP
import Derived.Test.YtccgbgjhjpllcaaVFieldP
set_option linter.unusedSimpArgs false
namespace Go.Gf
theorem convI_getD (mul : UInt8 → UInt8 → UInt8) (o : List UInt8) (n : Nat) (a : UInt8) (q : List UInt8) : ∀ k, n + k ≤ o.length → ∀ j, (convI mul o n a q k).getD j 0 = if n ≤ j ∧ j < n + k then o.getD j 0 ^^^ mul a (q.getD (j - n) 0) else o.getD j 0
  | 0, _, j => by
    have : ¬ (n ≤ j ∧ j < n + 0) := by omega
    rw [if_neg this]; rfl
  | k + 1, h, j => by
    rw [convI_succ, getD_set, convI_length]
    have ih := convI_getD mul o n a q k (by omega)
    by_cases e : j = n + k
    · subst e
      rw [if_pos ⟨rfl, by omega⟩, ih, if_neg (by omega), if_pos (by omega)]
      simp
    · rw [if_neg (fun x => e x.1), ih]
      by_cases h2 : n ≤ j ∧ j < n + k
      · rw [if_pos h2, if_pos (by omega)]
      · rw [if_neg h2, if_neg (by omega)]
/-- One round: what is left. -/
def divR (d : List UInt8) (inv : UInt8) (r : List UInt8) : List UInt8 := convI gmul r (deg1 r - deg1 d) (gmul (r.getD (deg1 r - 1) 0) inv) d (deg1 d)
def divQ (d : List UInt8) (inv : UInt8) (r q : List UInt8) : List UInt8 := q.set (deg1 r - deg1 d) (gmul (r.getD (deg1 r - 1) 0) inv)
def divF (d : List UInt8) (inv : UInt8) : Nat → List UInt8 → List UInt8 → List UInt8 × List UInt8
  | 0, r, q => (q, r)
  | n + 1, r, q => if deg1 r < deg1 d then (q, r) else divF d inv n (divR d inv r) (divQ d inv r q)
theorem divR_length (d : List UInt8) (inv : UInt8) (r : List UInt8) : (divR d inv r).length = r.length := convI_length _ _ _ _ _ _
theorem divR_lt {d r : List UInt8} (h0 : 0 < deg1 d) (h : deg1 d ≤ deg1 r) : deg1 (divR d (ginv (d.getD (deg1 d - 1) 0)) r) < deg1 r := by
  have hl := deg1_le r
  have key : ∀ k, deg1 r - 1 ≤ k → (divR d (ginv (d.getD (deg1 d - 1) 0)) r).getD k 0 = 0 := by
    intro k hk
    unfold divR
    rw [convI_getD _ _ _ _ _ _ (by omega)]
    by_cases e : k = deg1 r - 1
    · subst e
      rw [if_pos (by omega)]
      have h1 : deg1 r - 1 - (deg1 r - deg1 d) = deg1 d - 1 := by omega
      have h2 : d.getD (deg1 d - 1) 0 ≠ 0 := deg1_top (by omega)
      rw [h1, div_gmul h2, xor_self]
    · rw [if_neg (by omega)]
      exact deg1_zero (by omega)
  rcases Nat.lt_or_ge (deg1 (divR d (ginv (d.getD (deg1 d - 1) 0)) r)) (deg1 r) with h3 | h3
  · exact h3
  · exact absurd (key (deg1 (divR d (ginv (d.getD (deg1 d - 1) 0)) r) - 1) (by omega)) (deg1_top (by omega))
theorem divF_end {d : List UInt8} {inv : UInt8} {n : Nat} {r q : List UInt8} (h : deg1 r < deg1 d) : divF d inv n r q = (q, r) := by
  cases n with
  | zero => rfl
  | succ n => rw [divF, if_pos h]
theorem divF_step {d : List UInt8} {n : Nat} {inv : UInt8} {r q : List UInt8} (h0 : 0 < deg1 d) (h : deg1 d ≤ deg1 r) (hn : deg1 r ≤ n) : ∃ m, n = m + 1 ∧ divF d inv n r q = divF d inv m (divR d inv r) (divQ d inv r q) := by
  obtain ⟨m, rfl⟩ : ∃ m, n = m + 1 := ⟨n - 1, by omega⟩
  exact ⟨m, rfl, by rw [divF, if_neg (by omega)]⟩
/-- The quotient, and what is left. -/
def divL (p d : List UInt8) : List UInt8 × List UInt8 := divF d (ginv (d.getD (deg1 d - 1) 0)) p.length p (List.replicate p.length 0)
theorem divF_length (d : List UInt8) (inv : UInt8) : ∀ (n : Nat) (r q : List UInt8), (divF d inv n r q).1.length = q.length ∧ (divF d inv n r q).2.length = r.length
  | 0, r, q => ⟨rfl, rfl⟩
  | n + 1, r, q => by
    rw [divF]
    split
    · exact ⟨rfl, rfl⟩
    · obtain ⟨h1, h2⟩ := divF_length d inv n (divR d inv r) (divQ d inv r q)
      exact ⟨by rw [h1]; simp [divQ], by rw [h2, divR_length]⟩
theorem divL_length (p d : List UInt8) : (divL p d).1.length = p.length ∧ (divL p d).2.length = p.length := by
  obtain ⟨h1, h2⟩ := divF_length d (ginv (d.getD (deg1 d - 1) 0)) p.length p (List.replicate p.length 0)
  exact ⟨by rw [divL, h1]; simp, by rw [divL, h2]⟩
theorem deg1_lin (x : UInt8) : deg1 [x, 1] = 2 := deg1_eq (fun k hk => getD_ge (by simpa using hk)) (.inr (by simp))
/-- The polynomial that is 0 at all points but the k-th, as the program makes it. -/
def others (xs : List UInt8) (k : Nat) : List UInt8 := tl (divL (roots gmul xs) [xs.getD k 0, 1]).1
/-- The sum that Through gathers, of the first k points. -/
def thrN (xs ys : List UInt8) : Nat → List UInt8
  | 0 => []
  | k + 1 => tl (xadd (thrN xs ys k) (tl (conv gmul (others xs k) [gdiv (ys.getD k 0) (hor (xs.getD k 0) (others xs k))])))
/-- Is the value of each of the first k other polynomials not 0 at its own point? -/
def thrOk (xs : List UInt8) (k : Nat) : Prop := ∀ j, j < k → hor (xs.getD j 0) (others xs j) ≠ 0
instance (xs : List UInt8) (k : Nat) : Decidable (thrOk xs k) := inferInstanceAs (Decidable (∀ j, j < k → hor (xs.getD j 0) (others xs j) ≠ 0))
theorem others_length (xs : List UInt8) (k : Nat) : (others xs k).length ≤ 2 * xs.length + 1 := by
  unfold others
  rw [tl_length]
  have h1 := deg1_le (divL (roots gmul xs) [xs.getD k 0, 1]).1
  rw [(divL_length _ _).1] at h1
  have h2 := rootsN_length gmul xs xs.length
  unfold roots at h1 ⊢
  omega
theorem thrN_length (xs ys : List UInt8) : ∀ k, (thrN xs ys k).length ≤ 2 * xs.length + 2
  | 0 => by simp [thrN]
  | k + 1 => by
    have h1 := tl_le (xadd (thrN xs ys k) (tl (conv gmul (others xs k) [gdiv (ys.getD k 0) (hor (xs.getD k 0) (others xs k))])))
    have h2 := tl_le (conv gmul (others xs k) [gdiv (ys.getD k 0) (hor (xs.getD k 0) (others xs k))])
    have h3 := thrN_length xs ys k
    have h4 := others_length xs k
    rw [xadd_length] at h1
    rw [conv_length] at h2
    simp only [List.length_cons, List.length_nil] at h2
    rw [thrN]
    omega
end Go.Gf
