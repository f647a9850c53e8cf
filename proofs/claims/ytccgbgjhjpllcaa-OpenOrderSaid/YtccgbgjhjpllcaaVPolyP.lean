/-
  Polynomials, plain: lists of coefficients; what the program's functions compute.
-/
import Derived.Test.YtccgbgjhjpllcaaVGfP
set_option linter.unusedSimpArgs false
namespace Go.Gf
def mk (n : Nat) (f : Nat → UInt8) : List UInt8 := (List.range n).map f
theorem mk_length (n : Nat) (f : Nat → UInt8) : (mk n f).length = n := by simp [mk]
theorem mk_getD (n : Nat) (f : Nat → UInt8) (k : Nat) : (mk n f).getD k 0 = if k < n then f k else 0 := by
  unfold mk
  rw [List.getD_eq_getElem?_getD]
  by_cases h : k < n
  · simp [h]
  · simp [h]
theorem getD_ge {l : List UInt8} {k : Nat} (h : l.length ≤ k) : l.getD k 0 = 0 := by simp [List.getD_eq_getElem?_getD, h]
theorem ext0 {l m : List UInt8} (hl : l.length = m.length) (h : ∀ k, k < l.length → l.getD k 0 = m.getD k 0) : l = m := by
  apply List.ext_getElem hl
  intro k h1 h2
  have := h k h1
  simpa [List.getD_eq_getElem?_getD, List.getElem?_eq_getElem h1, List.getElem?_eq_getElem h2] using this
theorem getD_set {l : List UInt8} {k j : Nat} {v : UInt8} : (l.set k v).getD j 0 = if j = k ∧ k < l.length then v else l.getD j 0 := by
  simp only [List.getD_eq_getElem?_getD, List.getElem?_set]
  by_cases h : k = j
  · subst h
    by_cases h2 : k < l.length <;> simp [h2]
  · have h' : ¬ j = k := fun e => h e.symm
    simp [h, h']
theorem getD_take {l : List UInt8} {n j : Nat} : (l.take n).getD j 0 = if j < n then l.getD j 0 else 0 := by
  simp only [List.getD_eq_getElem?_getD, List.getElem?_take]
  by_cases h : j < n <;> simp [h]
theorem getD_append {l m : List UInt8} {j : Nat} : (l ++ m).getD j 0 = if j < l.length then l.getD j 0 else m.getD (j - l.length) 0 := by
  simp only [List.getD_eq_getElem?_getD]
  by_cases h : j < l.length
  · rw [List.getElem?_append_left h]; simp [h]
  · rw [List.getElem?_append_right (by omega)]; simp [h]
/-- How many coefficients are left, of the first n, when noughts at the end go. -/
def degN (p : List UInt8) : Nat → Nat
  | 0 => 0
  | n + 1 => if p.getD n 0 = 0 then degN p n else n + 1
def deg1 (p : List UInt8) : Nat := degN p p.length
def tl (p : List UInt8) : List UInt8 := p.take (deg1 p)
theorem degN_le (p : List UInt8) : ∀ n, degN p n ≤ n
  | 0 => Nat.le_refl _
  | n + 1 => by
    unfold degN
    split
    · exact Nat.le_succ_of_le (degN_le p n)
    · exact Nat.le_refl _
theorem deg1_le (p : List UInt8) : deg1 p ≤ p.length := degN_le p p.length
theorem tl_length (p : List UInt8) : (tl p).length = deg1 p := by simp [tl, Nat.min_eq_left (deg1_le p)]
theorem degN_zero (p : List UInt8) : ∀ n k, degN p n ≤ k → k < n → p.getD k 0 = 0
  | 0, k, _, h => absurd h (by omega)
  | n + 1, k, h1, h2 => by
    unfold degN at h1
    split at h1
    · rename_i h0
      by_cases hk : k = n
      · subst hk; exact h0
      · exact degN_zero p n k h1 (by omega)
    · omega
theorem deg1_zero {p : List UInt8} {k : Nat} (h : deg1 p ≤ k) : p.getD k 0 = 0 := by
  by_cases hk : k < p.length
  · exact degN_zero p p.length k h hk
  · exact getD_ge (by omega)
theorem degN_top (p : List UInt8) : ∀ n k, degN p n = k + 1 → p.getD k 0 ≠ 0
  | 0, k, h => by simp [degN] at h
  | n + 1, k, h => by
    unfold degN at h
    split at h
    · exact degN_top p n k h
    · rename_i h0
      have : n = k := by omega
      subst this; exact h0
theorem deg1_top {p : List UInt8} {k : Nat} (h : deg1 p = k + 1) : p.getD k 0 ≠ 0 := degN_top p _ k h
theorem getD_tl (p : List UInt8) (k : Nat) : (tl p).getD k 0 = p.getD k 0 := by
  unfold tl
  rw [getD_take]
  split
  · rfl
  · exact (deg1_zero (by omega)).symm
/-- Which degree a list has is told by its coefficients. -/
theorem deg1_eq {p : List UInt8} {n : Nat} (h1 : ∀ k, n ≤ k → p.getD k 0 = 0) (h2 : n = 0 ∨ p.getD (n - 1) 0 ≠ 0) : deg1 p = n := by
  rcases Nat.lt_trichotomy (deg1 p) n with h | h | h
  · rcases h2 with h2 | h2
    · omega
    · exact absurd (deg1_zero (p := p) (k := n - 1) (by omega)) h2
  · exact h
  · exact absurd (h1 (deg1 p - 1) (by omega)) (deg1_top (p := p) (k := deg1 p - 1) (by omega))
theorem tl_eq {p q : List UInt8} (h : ∀ k, p.getD k 0 = q.getD k 0) : tl p = tl q := by
  have hd : deg1 p = deg1 q := by
    refine deg1_eq (fun k hk => by rw [h]; exact deg1_zero hk) ?_
    by_cases h0 : deg1 q = 0
    · exact .inl h0
    · refine .inr ?_
      rw [h]
      exact deg1_top (by omega)
  refine ext0 (by rw [tl_length, tl_length, hd]) fun k _ => by rw [getD_tl, getD_tl, h]
theorem tl_tl (p : List UInt8) : tl (tl p) = tl p := tl_eq (getD_tl p)

/-- Sums. -/
def xadd (p q : List UInt8) : List UInt8 := mk (max p.length q.length) fun k => p.getD k 0 ^^^ q.getD k 0
theorem getD_xadd (p q : List UInt8) (k : Nat) : (xadd p q).getD k 0 = p.getD k 0 ^^^ q.getD k 0 := by
  unfold xadd
  rw [mk_getD]
  split
  · rfl
  · rw [getD_ge (by omega), getD_ge (by omega)]; rfl
theorem xadd_comm (p q : List UInt8) : xadd p q = xadd q p := by
  refine ext0 (by simp [xadd, mk_length, Nat.max_comm]) fun k _ => by rw [getD_xadd, getD_xadd, UInt8.xor_comm]
/-- p, to which the first k of q have been added. -/
def xaddN (p q : List UInt8) (k : Nat) : List UInt8 := mk p.length fun j => p.getD j 0 ^^^ (if j < k then q.getD j 0 else 0)
theorem xaddN_zero (p q : List UInt8) : xaddN p q 0 = p := by
  refine ext0 (by simp [xaddN, mk_length]) fun k hk => ?_
  have : k < p.length := by simpa [xaddN, mk_length] using hk
  rw [xaddN, mk_getD]; simp [this]
theorem xaddN_succ {p q : List UInt8} {k : Nat} (hk : k < p.length) : (xaddN p q k).set k ((xaddN p q k).getD k 0 ^^^ q.getD k 0) = xaddN p q (k + 1) := by
  refine ext0 (by simp [xaddN, mk_length]) fun j hj => ?_
  have hj' : j < p.length := by simpa [xaddN, mk_length] using hj
  rw [getD_set]
  simp only [xaddN, mk_getD, mk_length, hj', hk, if_true, and_true]
  by_cases h : j = k
  · subst h; simp
  · have : (j < k + 1) = (j < k) := by simp; omega
    simp [h, this]
theorem xaddN_all {p q : List UInt8} (h : q.length ≤ p.length) : xaddN p q q.length = xadd p q := by
  refine ext0 (by simp [xaddN, xadd, mk_length]; omega) fun j hj => ?_
  have hj' : j < p.length := by simpa [xaddN, mk_length] using hj
  rw [getD_xadd]
  simp only [xaddN, mk_getD, hj', if_true]
  by_cases h : j < q.length
  · simp [h]
  · simp [h]
/-- Values, from the greatest power on. -/
def hor (x : UInt8) (p : List UInt8) : UInt8 := p.foldr (fun c s => gmul s x ^^^ c) 0
theorem hor_step {x : UInt8} {p : List UInt8} {k : Nat} (hk : k < p.length) : hor x (p.drop (p.length - (k + 1))) = gmul (hor x (p.drop (p.length - k))) x ^^^ p.getD (p.length - 1 - k) 0 := by
  have h1 : p.length - (k + 1) < p.length := by omega
  rw [List.drop_eq_getElem_cons h1]
  have h2 : p.length - (k + 1) + 1 = p.length - k := by omega
  have h3 : p.length - 1 - k = p.length - (k + 1) := by omega
  rw [h2, h3]
  simp [hor, List.getD_eq_getElem?_getD, List.getElem?_eq_getElem h1]
/-- Products: the rounds of the two loops. -/
def convI (mul : UInt8 → UInt8 → UInt8) (o : List UInt8) (n : Nat) (a : UInt8) (q : List UInt8) (k : Nat) : List UInt8 :=
  (List.range k).foldl (fun o m => o.set (n + m) (o.getD (n + m) 0 ^^^ mul a (q.getD m 0))) o
def convO (mul : UInt8 → UInt8 → UInt8) (p q : List UInt8) (k : Nat) : List UInt8 :=
  (List.range k).foldl (fun o n => convI mul o n (p.getD n 0) q q.length) (List.replicate (p.length + q.length) 0)
def conv (mul : UInt8 → UInt8 → UInt8) (p q : List UInt8) : List UInt8 := convO mul p q p.length
theorem convI_succ (mul : UInt8 → UInt8 → UInt8) (o : List UInt8) (n : Nat) (a : UInt8) (q : List UInt8) (k : Nat) :
    convI mul o n a q (k + 1) = (convI mul o n a q k).set (n + k) ((convI mul o n a q k).getD (n + k) 0 ^^^ mul a (q.getD k 0)) := by
  simp [convI, List.range_succ]
theorem convO_succ (mul : UInt8 → UInt8 → UInt8) (p q : List UInt8) (k : Nat) : convO mul p q (k + 1) = convI mul (convO mul p q k) k (p.getD k 0) q q.length := by
  simp [convO, List.range_succ]
theorem convI_length (mul : UInt8 → UInt8 → UInt8) (o : List UInt8) (n : Nat) (a : UInt8) (q : List UInt8) : ∀ k, (convI mul o n a q k).length = o.length
  | 0 => rfl
  | k + 1 => by rw [convI_succ, List.length_set, convI_length mul o n a q k]
theorem convO_length (mul : UInt8 → UInt8 → UInt8) (p q : List UInt8) : ∀ k, (convO mul p q k).length = p.length + q.length
  | 0 => by simp [convO]
  | k + 1 => by rw [convO_succ, convI_length, convO_length mul p q k]
theorem conv_length (mul : UInt8 → UInt8 → UInt8) (p q : List UInt8) : (conv mul p q).length = p.length + q.length := convO_length mul p q _
theorem xadd_length (p q : List UInt8) : (xadd p q).length = max p.length q.length := by simp [xadd, mk_length]
theorem tl_le (p : List UInt8) : (tl p).length ≤ p.length := by rw [tl_length]; exact deg1_le p
/-- The product of all x less a point, of the first k. -/
def rootsN (mul : UInt8 → UInt8 → UInt8) (xs : List UInt8) : Nat → List UInt8
  | 0 => [1]
  | k + 1 => tl (conv mul (rootsN mul xs k) [xs.getD k 0, 1])
def roots (mul : UInt8 → UInt8 → UInt8) (xs : List UInt8) : List UInt8 := rootsN mul xs xs.length
theorem rootsN_length (mul : UInt8 → UInt8 → UInt8) (xs : List UInt8) : ∀ k, (rootsN mul xs k).length ≤ 2 * k + 1
  | 0 => by simp [rootsN]
  | k + 1 => by
    rw [rootsN, tl_length]
    have h1 := deg1_le (conv mul (rootsN mul xs k) [xs.getD k 0, 1])
    rw [conv, convO_length] at h1
    have h2 := rootsN_length mul xs k
    simp only [List.length_cons, List.length_nil] at h1
    unfold conv
    omega
end Go.Gf
