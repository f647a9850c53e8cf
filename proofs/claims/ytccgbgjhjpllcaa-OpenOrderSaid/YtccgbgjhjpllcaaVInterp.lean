/-
  Polynomials, plain: roots and values.
-/
import Derived.Test.YtccgbgjhjpllcaaVRing
set_option linter.unusedSimpArgs false
set_option linter.unusedVariables false
namespace Go.Gf
theorem hor_one (y : UInt8) : hor y [1] = 1 := by simp [hor, zero_gmul]
theorem hor_c (y c : UInt8) : hor y [c] = c := by simp [hor, zero_gmul]
theorem hor_line (x y : UInt8) : hor y [x, 1] = y ^^^ x := by simp [hor, zero_gmul, one_gmul]
theorem hor_lin (y : UInt8) (p : List UInt8) (x : UInt8) : hor y (lin p x) = gmul (hor y p) (y ^^^ x) := by rw [lin, hor_tl, hor_conv, hor_line]
theorem hor_foldl (y : UInt8) : ∀ (xs : List UInt8) (p : List UInt8), hor y (xs.foldl lin p) = 0 ↔ hor y p = 0 ∨ y ∈ xs
  | [], p => by simp
  | x :: r, p => by
    rw [List.foldl_cons, hor_foldl y r, hor_lin, gmul_eq_zero, xor_eq_zero, List.mem_cons, or_assoc]
theorem hor_roots (y : UInt8) (xs : List UInt8) : hor y (roots gmul xs) = 0 ↔ y ∈ xs := by
  rw [roots_foldl, hor_foldl, hor_one]
  simp
theorem deg1_lin' {p : List UInt8} (h : 0 < deg1 p) (x : UInt8) : deg1 (lin p x) = deg1 p + 1 := by
  refine deg1_eq (fun k hk => ?_) (.inr ?_)
  · rw [getD_lin, if_neg (by omega), deg1_zero (by omega), deg1_zero (by omega), zero_gmul]; rfl
  · rw [getD_lin, Nat.add_sub_cancel, if_neg (by omega), deg1_zero (Nat.le_refl _), zero_gmul, zero_xor]
    exact deg1_top (by omega)
theorem deg1_foldl : ∀ (xs : List UInt8) (p : List UInt8), 0 < deg1 p → deg1 (xs.foldl lin p) = deg1 p + xs.length
  | [], p, _ => rfl
  | x :: r, p, h => by
    rw [List.foldl_cons, deg1_foldl r (lin p x) (by rw [deg1_lin' h]; omega), deg1_lin' h, List.length_cons]
    omega
theorem deg1_roots (xs : List UInt8) : deg1 (roots gmul xs) = xs.length + 1 := by
  rw [roots_foldl, deg1_foldl xs [1] (by decide)]
  have : deg1 [1] = 1 := by decide
  omega
theorem roots_length (xs : List UInt8) : (roots gmul xs).length = xs.length + 1 := by
  have h := tl_length (roots gmul xs)
  rw [tl_roots, deg1_roots] at h
  exact h
theorem others_len {xs : List UInt8} {k : Nat} (hk : k < xs.length) : (rothers xs k).length = xs.length := by
  rw [rothers, roots_length]
  simp
  omega
theorem mem_others {xs : List UInt8} {j k : Nat} (hj : j < xs.length) (h : j ≠ k) : xs.getD j 0 ∈ xs.take k ++ xs.drop (k + 1) := by
  have hg : xs.getD j 0 = xs[j] := by simp [List.getD_eq_getElem?_getD, List.getElem?_eq_getElem hj]
  rw [hg, List.mem_append]
  rcases Nat.lt_or_ge j k with h1 | h1
  · refine .inl (List.mem_iff_getElem.2 ⟨j, by simp; omega, by simp⟩)
  · refine .inr (List.mem_iff_getElem.2 ⟨j - (k + 1), by simp; omega, ?_⟩)
    have : k + 1 + (j - (k + 1)) = j := by omega
    simp [this]
theorem of_mem_others {xs : List UInt8} {k : Nat} {x : UInt8} (h : x ∈ xs.take k ++ xs.drop (k + 1)) : ∃ j, j < xs.length ∧ j ≠ k ∧ xs.getD j 0 = x := by
  rcases List.mem_append.1 h with h | h
  · obtain ⟨j, hj, rfl⟩ := List.mem_iff_getElem.1 h
    simp at hj
    exact ⟨j, by omega, by omega, by simp [List.getD_eq_getElem?_getD, List.getElem?_eq_getElem (show j < xs.length by omega)]⟩
  · obtain ⟨j, hj, rfl⟩ := List.mem_iff_getElem.1 h
    simp at hj
    exact ⟨k + 1 + j, by omega, by omega, by simp [List.getD_eq_getElem?_getD, List.getElem?_eq_getElem (show k + 1 + j < xs.length by omega)]⟩
theorem unlike_ne {xs : List UInt8} (h : unlike xs) {i j : Nat} (hi : i < xs.length) (hj : j < xs.length) (hne : i ≠ j) : xs.getD i 0 ≠ xs.getD j 0 := by
  rcases Nat.lt_or_ge j i with h1 | h1
  · exact h i hi j h1
  · exact fun e => h j hj i (by omega) e.symm
theorem hor_others {xs : List UInt8} {j k : Nat} (hj : j < xs.length) (h : j ≠ k) : hor (xs.getD j 0) (rothers xs k) = 0 := (hor_roots _ _).2 (mem_others hj h)
theorem hor_own {xs : List UInt8} (h : unlike xs) {k : Nat} (hk : k < xs.length) : hor (xs.getD k 0) (rothers xs k) ≠ 0 := by
  intro e
  obtain ⟨j, hj, hne, he⟩ := of_mem_others ((hor_roots _ _).1 e)
  exact unlike_ne h hj hk hne he
theorem thrOk_iff (xs : List UInt8) : thrOk xs xs.length ↔ unlike xs := by
  constructor
  · intro h i hi j hj e
    have h1 := h i hi
    rw [others_eq hi, e] at h1
    exact h1 (hor_others (xs := xs) (j := j) (k := i) (by omega) (by omega))
  · intro h j hj
    rw [others_eq hj]
    exact hor_own h hj
theorem hor_rthrN {xs ys : List UInt8} (h : unlike xs) {j : Nat} (hj : j < xs.length) : ∀ k, k ≤ xs.length → hor (xs.getD j 0) (rthrN xs ys k) = if j < k then ys.getD j 0 else 0
  | 0, _ => by rw [if_neg (by omega)]; rfl
  | k + 1, hk => by
    rw [rthrN, hor_tl, hor_xadd, hor_tl, hor_conv, hor_c, hor_rthrN h hj k (by omega)]
    by_cases e : j = k
    · subst e
      rw [if_neg (by omega), if_pos (by omega), zero_xor, gmul_comm, gmul_assoc, inv_gmul (hor_own h hj), gmul_one]
    · rw [hor_others hj e, zero_gmul, xor_zero]
      by_cases h1 : j < k
      · rw [if_pos h1, if_pos (by omega)]
      · rw [if_neg h1, if_neg (by omega)]
theorem getD_convc (p : List UInt8) (c : UInt8) (k : Nat) : (conv gmul p [c]).getD k 0 = gmul (p.getD k 0) c := by
  rw [getD_conv]
  unfold cf
  rw [xsum, xsum_zero fun i hi => ?_, zero_xor]
  · have : k - k = 0 := by omega
    rw [this]; rfl
  · rw [getD_ge (l := [c]) (by simp; omega), gmul_zero]
theorem deg1_le_of {p : List UInt8} {n : Nat} (h : ∀ k, n ≤ k → p.getD k 0 = 0) : deg1 p ≤ n := by
  rcases Nat.lt_or_ge n (deg1 p) with h1 | h1
  · exact absurd (h (deg1 p - 1) (by omega)) (deg1_top (by omega))
  · exact h1
theorem rthrN_len {xs ys : List UInt8} : ∀ k, k ≤ xs.length → (rthrN xs ys k).length ≤ xs.length
  | 0, _ => by simp [rthrN]
  | k + 1, hk => by
    rw [rthrN, tl_length]
    refine deg1_le_of fun j hj => ?_
    have ih := rthrN_len (ys := ys) k (show k ≤ xs.length by omega)
    rw [getD_xadd, getD_tl, getD_convc, getD_ge (by omega), getD_ge (l := rothers xs k) (by rw [others_len (by omega)]; exact hj), zero_gmul]
    rfl
theorem agN_all {p xs ys : List UInt8} : ∀ {k : Nat}, (∀ i, i < k → hor (xs.getD i 0) p = ys.getD i 0) → agN p xs ys k = k
  | 0, _ => rfl
  | k + 1, h => by rw [agN, if_pos (h k (by omega)), agN_all fun i hi => h i (by omega)]
/-! ### A polynomial has no more roots than its degree -/
def sdiv (x : UInt8) : List UInt8 → List UInt8
  | [] => []
  | c :: r => match r with
    | [] => []
    | _ :: _ => hor x r :: sdiv x r
theorem hor_cons (x c : UInt8) (r : List UInt8) : hor x (c :: r) = gmul (hor x r) x ^^^ c := rfl
theorem sdiv_length (x : UInt8) : ∀ p : List UInt8, (sdiv x p).length = p.length - 1
  | [] => rfl
  | [c] => rfl
  | c :: d :: r => by
    have h1 : sdiv x (c :: d :: r) = hor x (d :: r) :: sdiv x (d :: r) := rfl
    rw [h1, List.length_cons, sdiv_length x (d :: r)]
    rfl
theorem hor_sdiv (x y : UInt8) : ∀ p : List UInt8, hor y p ^^^ hor x p = gmul (y ^^^ x) (hor y (sdiv x p))
  | [] => by simp [hor, sdiv, gmul_zero]
  | [c] => by simp [hor, sdiv, gmul_zero, zero_gmul]
  | c :: d :: r => by
    have ih := hor_sdiv x y (d :: r)
    have h1 : sdiv x (c :: d :: r) = hor x (d :: r) :: sdiv x (d :: r) := rfl
    rw [h1, hor_cons y (hor x (d :: r)), hor_cons y c, hor_cons x c, xor4, xor_self, xor_zero]
    generalize hor y (sdiv x (d :: r)) = Q at ih ⊢
    generalize hor x (d :: r) = X at ih ⊢
    generalize hor y (d :: r) = Y at ih ⊢
    rw [gmul_xor, ← gmul_assoc, ← ih]
    simp only [xor_gmul, gmul_xor]
    rw [gmul_comm y X, gmul_comm x X]
    rw [UInt8.xor_assoc, ← UInt8.xor_assoc (gmul X y), xor_self, zero_xor]
theorem sdiv_zero (x : UInt8) : ∀ p : List UInt8, (∀ k, (sdiv x p).getD k 0 = 0) → hor x p = 0 → ∀ k, p.getD k 0 = 0
  | [], _, _, k => rfl
  | [c], _, h, k => by
    rw [hor_c] at h
    subst h
    cases k <;> rfl
  | c :: d :: r, hz, h, k => by
    have h1 : sdiv x (c :: d :: r) = hor x (d :: r) :: sdiv x (d :: r) := rfl
    rw [h1] at hz
    have h2 : hor x (d :: r) = 0 := hz 0
    have h3 := sdiv_zero x (d :: r) (fun k => hz (k + 1)) h2
    rw [hor_cons, h2, zero_gmul, zero_xor] at h
    subst h
    cases k with
    | zero => rfl
    | succ k => exact h3 k
theorem no_roots : ∀ (n : Nat) (p : List UInt8) (z : Nat → UInt8), p.length ≤ n → (∀ i j, i < n → j < n → i ≠ j → z i ≠ z j) → (∀ i, i < n → hor (z i) p = 0) → ∀ k, p.getD k 0 = 0
  | 0, p, z, hl, _, _, k => getD_ge (by omega)
  | n + 1, p, z, hl, hd, hr, k => by
    have hz : ∀ k, (sdiv (z n) p).getD k 0 = 0 := by
      refine no_roots n (sdiv (z n) p) z (by rw [sdiv_length]; omega) (fun i j hi hj => hd i j (by omega) (by omega)) fun i hi => ?_
      have h := hor_sdiv (z n) (z i) p
      rw [hr i (by omega), hr n (by omega)] at h
      have h2 : gmul (z i ^^^ z n) (hor (z i) (sdiv (z n) p)) = 0 := h.symm
      rcases gmul_eq_zero.1 h2 with h3 | h3
      · exact absurd (xor_cancel h3) (hd i n (by omega) (by omega) (by omega))
      · exact h3
    exact sdiv_zero (z n) p hz (hr n (by omega)) k
/-- Two polynomials of n coefficients at most that agree at n unlike points are one. -/
theorem one_poly {p q : List UInt8} {n : Nat} {z : Nat → UInt8} (hp : deg1 p ≤ n) (hq : deg1 q ≤ n) (hd : ∀ i j, i < n → j < n → i ≠ j → z i ≠ z j) (h : ∀ i, i < n → hor (z i) p = hor (z i) q) : tl p = tl q := by
  refine tl_eq fun k => ?_
  have h1 := no_roots n (tl (xadd p q)) z (by rw [tl_length]; exact deg1_le_of fun k hk => by rw [getD_xadd, deg1_zero (by omega), deg1_zero (by omega)]; rfl) hd (fun i hi => by rw [hor_tl, hor_xadd, h i hi, xor_self]) k
  rw [getD_tl, getD_xadd] at h1
  exact xor_cancel h1
end Go.Gf
