/-
  Words of which some values are wrong, plain: what the equations' solution is.
-/
import Derived.Test.YtccgbgjhjpllcaaVSolveL
import Derived.Test.YtccgbgjhjpllcaaVCount
set_option linter.unusedVariables false
set_option linter.unusedSimpArgs false
namespace Go.Gf
theorem xsum_add (f : Nat → UInt8) (m : Nat) : ∀ n, xsum f (m + n) = xsum f m ^^^ xsum (fun k => f (m + k)) n
  | 0 => (xor_zero _).symm
  | n + 1 => by rw [← Nat.add_assoc, xsum, xsum_add f m n, xsum, UInt8.xor_assoc]
/-! ### The equations -/
def fE (xs ys : List UInt8) (d w : Nat) : M := fun i j => if j < d + 1 + w then ppow (xs.getD i 0) j else gmul (ys.getD i 0) (ppow (xs.getD i 0) (j - (d + 1 + w)))
def rowE (x y : UInt8) (d w : Nat) : List UInt8 := mk (d + 1 + 2 * w) fun j => if j < d + 1 + w then ppow x j else gmul y (ppow x (j - (d + 1 + w)))
def rhsE (x y : UInt8) (w : Nat) : UInt8 := gmul y (ppow x w)
def rowsE (xs ys : List UInt8) (d w k : Nat) : List (List UInt8) := (List.range k).map fun i => rowE (xs.getD i 0) (ys.getD i 0) d w
def rhssE (xs ys : List UInt8) (w k : Nat) : List UInt8 := mk k fun i => rhsE (xs.getD i 0) (ys.getD i 0) w
theorem rowsE_succ (xs ys : List UInt8) (d w k : Nat) : rowsE xs ys d w (k + 1) = rowsE xs ys d w k ++ [rowE (xs.getD k 0) (ys.getD k 0) d w] := by simp [rowsE, List.range_succ]
theorem rhssE_succ (xs ys : List UInt8) (w k : Nat) : rhssE xs ys w (k + 1) = rhssE xs ys w k ++ [rhsE (xs.getD k 0) (ys.getD k 0) w] := mk_succ _ _
theorem rowsE_length (xs ys : List UInt8) (d w k : Nat) : (rowsE xs ys d w k).length = k := by simp [rowsE]
theorem rowsE_row {xs ys : List UInt8} {d w k i : Nat} (hi : i < k) : (rowsE xs ys d w k).getD i [] = rowE (xs.getD i 0) (ys.getD i 0) d w := by
  simp [rowsE, List.getD_eq_getElem?_getD, List.getElem?_range, hi]
theorem rowE_length (x y : UInt8) (d w : Nat) : (rowE x y d w).length = d + 1 + 2 * w := mk_length _ _
theorem rowsE_rect (xs ys : List UInt8) (d w k : Nat) : rect (rowsE xs ys d w k) := by
  intro i hi
  rw [rowsE_length] at hi
  rw [rowsE_row hi, rowsE_row (show 0 < k by omega), rowE_length, rowE_length]
/-- A row's sum, as values of polynomials. -/
theorem dotE {xs ys : List UInt8} {d w k i : Nat} (hi : i < k) (u : List UInt8) (hu : u.length = d + 1 + 2 * w) :
    dotN (gM (rowsE xs ys d w k)) (fun j => u.getD j 0) (d + 1 + 2 * w) i = hor (xs.getD i 0) (u.take (d + 1 + w)) ^^^ gmul (ys.getD i 0) (hor (xs.getD i 0) (u.drop (d + 1 + w))) := by
  have e : ∀ j, j < d + 1 + 2 * w → gM (rowsE xs ys d w k) i j = if j < d + 1 + w then ppow (xs.getD i 0) j else gmul (ys.getD i 0) (ppow (xs.getD i 0) (j - (d + 1 + w))) := fun j hj => by
    unfold gM
    rw [rowsE_row hi, rowE, mk_getD, if_pos hj]
  unfold dotN
  rw [xsum_congr fun j hj => by rw [e j hj]]
  have e2 : d + 1 + 2 * w = (d + 1 + w) + w := by omega
  rw [e2, xsum_add]
  congr 1
  · rw [hor_xsum (n := d + 1 + w) _ (u.take (d + 1 + w)) (by simp; omega)]
    refine xsum_congr fun j hj => ?_
    rw [if_pos hj, getD_take, if_pos hj, gmul_comm]
  · rw [hor_xsum (n := w) _ (u.drop (d + 1 + w)) (by simp; omega), ← xsum_mul]
    refine xsum_congr fun j hj => ?_
    rw [if_neg (by omega), show d + 1 + w + j - (d + 1 + w) = j by omega, gmul_assoc, gmul_comm (ppow _ _)]
    have : u.getD (d + 1 + w + j) 0 = (u.drop (d + 1 + w)).getD j 0 := by simp [List.getD_eq_getElem?_getD, List.getElem?_drop]
    show gmul _ (gmul (u.getD (d + 1 + w + j) 0) _) = _
    rw [this]
/-- The locator: its last power stands alone. -/
theorem hor_snoc (x : UInt8) (l : List UInt8) (c : UInt8) : hor x (l ++ [c]) = hor x l ^^^ gmul c (ppow x l.length) := by
  rw [hor_xsum (n := l.length + 1) x (l ++ [c]) (by simp), hor_xsum (n := l.length) x l (Nat.le_refl _), xsum]
  congr 1
  · exact xsum_congr fun j hj => by rw [getD_append, if_pos hj]
  · rw [getD_append, if_neg (Nat.lt_irrefl _)]; simp

/-! ### Products and their degrees -/
theorem cf_top {p q : List UInt8} {m n : Nat} (hp : deg1 p = m + 1) (hq : deg1 q = n + 1) : cf p q (m + n) = gmul (p.getD m 0) (q.getD n 0) := by
  unfold cf
  rw [xsum_one (j := m) (by omega)]
  · rw [show m + n - m = n by omega]
  · intro i hi hne
    by_cases h : m < i
    · rw [deg1_zero (p := p) (k := i) (by omega), zero_gmul]
    · rw [deg1_zero (p := q) (k := m + n - i) (by omega), gmul_zero]
theorem cf_deg {p q : List UInt8} {k : Nat} (h : deg1 p + deg1 q ≤ k + 1) : cf p q k = 0 := by
  unfold cf
  refine xsum_zero fun i hi => ?_
  by_cases h1 : deg1 p ≤ i
  · rw [deg1_zero h1, zero_gmul]
  · rw [deg1_zero (p := q) (k := k - i) (by omega), gmul_zero]
theorem cf_xor (p p' q : List UInt8) (k : Nat) : cf (xadd p p') q k = cf p q k ^^^ cf p' q k := by
  unfold cf
  rw [← xsum_xor]
  exact xsum_congr fun i _ => by rw [getD_xadd, xor_gmul]
/-- What is left of a product, divided by its factor. -/
theorem div_unique {p0 L q : List UInt8} (h0 : 0 < deg1 L) (h : ∀ k, q.getD k 0 = cf p0 L k) : tl (divL q L).1 = tl p0 ∧ deg1 (divL q L).2 = 0 := by
  obtain ⟨h1, h2⟩ := divL_ok (p := q) h0
  generalize (divL q L).1 = a at h2 ⊢
  generalize (divL q L).2 = r at h1 h2 ⊢
  have h3 : ∀ k, cf (xadd a p0) L k = r.getD k 0 := fun k => by
    rw [cf_xor]
    have := h2 k
    rw [h k] at this
    rw [← this, ← UInt8.xor_assoc, xor_self, zero_xor]
  have h4 : deg1 (xadd a p0) = 0 := by
    cases hd : deg1 (xadd a p0) with
    | zero => rfl
    | succ m =>
      obtain ⟨n, hn⟩ : ∃ n, deg1 L = n + 1 := ⟨deg1 L - 1, by omega⟩
      have h5 := cf_top hd hn
      rw [h3, deg1_zero (p := r) (k := m + n) (by omega)] at h5
      exact absurd h5.symm (gmul_ne (deg1_top hd) (deg1_top hn))
  have h6 : ∀ k, (xadd a p0).getD k 0 = 0 := fun k => deg1_zero (by omega)
  refine ⟨tl_eq fun k => ?_, deg1_eq (fun k _ => ?_) (.inl rfl)⟩
  · have := h6 k
    rw [getD_xadd] at this
    exact xor_cancel this
  · rw [← h3 k]
    exact xsum_zero fun i _ => by rw [h6, zero_gmul]
/-! ### Which values are wrong -/
def wrongL (p xs ys : List UInt8) (k : Nat) : List Nat := (List.range k).filter fun i => decide (hor (xs.getD i 0) p ≠ ys.getD i 0)
theorem wrongL_succ (p xs ys : List UInt8) (k : Nat) : wrongL p xs ys (k + 1) = if hor (xs.getD k 0) p ≠ ys.getD k 0 then wrongL p xs ys k ++ [k] else wrongL p xs ys k := by
  unfold wrongL
  rw [List.range_succ, List.filter_append]
  split
  · rename_i h; rw [List.filter_cons, if_pos (by simpa using h)]; rfl
  · rename_i h; rw [List.filter_cons, if_neg (by simpa using h)]; simp
theorem wrongL_cnt (p xs ys : List UInt8) : ∀ k, (wrongL p xs ys k).length + agN p xs ys k = k
  | 0 => rfl
  | k + 1 => by
    have := wrongL_cnt p xs ys k
    rw [wrongL_succ, agN]
    by_cases h : hor (xs.getD k 0) p = ys.getD k 0
    · rw [if_neg (fun hn => hn h), if_pos h]; omega
    · rw [if_pos h, if_neg h, List.length_append]; simp; omega
theorem wrongL_le (p xs ys : List UInt8) (k : Nat) : (wrongL p xs ys k).length ≤ k := by have := wrongL_cnt p xs ys k; omega
theorem wrongL_lt {p xs ys : List UInt8} {k i : Nat} (h : i ∈ wrongL p xs ys k) : i < k ∧ hor (xs.getD i 0) p ≠ ys.getD i 0 := by
  unfold wrongL at h
  simpa using List.mem_filter.1 h
theorem wrongL_mem {p xs ys : List UInt8} {k i : Nat} (hi : i < k) (h : hor (xs.getD i 0) p ≠ ys.getD i 0) : i ∈ wrongL p xs ys k := by
  unfold wrongL
  exact List.mem_filter.2 ⟨List.mem_range.2 hi, by simpa using h⟩
theorem hor_tl_wrong (p xs ys : List UInt8) (k : Nat) : wrongL (tl p) xs ys k = wrongL p xs ys k := by
  unfold wrongL
  exact List.filter_congr fun i _ => by rw [hor_tl]
/-- Polynomials that are agreed on by enough are one. -/
theorem agree_two {p q xs ys : List UInt8} {n : Nat} (hu : unlike xs) (hp : deg1 p ≤ n) (hq : deg1 q ≤ n) (h : (wrongL p xs ys xs.length).length + (wrongL q xs ys xs.length).length + n ≤ xs.length) : tl p = tl q := by
  refine agree_one hu hp hq ?_
  have h1 := wrongL_cnt p xs ys xs.length
  have h2 := wrongL_cnt q xs ys xs.length
  rw [agN_cnt] at h1 h2
  have h3 := cntP_and (fun i => decide (hor (xs.getD i 0) p = ys.getD i 0)) (fun i => decide (hor (xs.getD i 0) q = ys.getD i 0)) xs.length
  have h4 : cntP (fun i => decide (hor (xs.getD i 0) p = ys.getD i 0) && decide (hor (xs.getD i 0) q = ys.getD i 0)) xs.length ≤ agree p q xs := by
    refine cntP_mono fun i _ hi => ?_
    simp only [Bool.and_eq_true, decide_eq_true_eq] at hi ⊢
    rw [hi.1, hi.2]
  omega
/-! ### The candidate -/
def candU (xs ys : List UInt8) (d w : Nat) : List UInt8 := slvX (rowsE xs ys d w xs.length) (d + 1 + 2 * w) (rhssE xs ys w xs.length)
def candL (xs ys : List UInt8) (d w : Nat) : List UInt8 := (candU xs ys d w).drop (d + 1 + w) ++ [1]
def candQ (xs ys : List UInt8) (d w : Nat) : List UInt8 := (candU xs ys d w).take (d + 1 + w)
def candOk (xs ys : List UInt8) (d w : Nat) : Prop := slvOk (rowsE xs ys d w xs.length) (d + 1 + 2 * w) (rhssE xs ys w xs.length) ∧ deg1 (divL (candQ xs ys d w) (candL xs ys d w)).2 = 0 ∧ deg1 (divL (candQ xs ys d w) (candL xs ys d w)).1 ≤ d + 1
def candP (xs ys : List UInt8) (d w : Nat) : List UInt8 := tl (divL (candQ xs ys d w) (candL xs ys d w)).1
theorem candU_length (xs ys : List UInt8) (d w : Nat) : (candU xs ys d w).length = d + 1 + 2 * w := mk_length _ _
theorem candL_length (xs ys : List UInt8) (d w : Nat) : (candL xs ys d w).length = w + 1 := by simp [candL, candU_length]; omega
theorem candL_deg (xs ys : List UInt8) (d w : Nat) : deg1 (candL xs ys d w) = w + 1 := by
  refine deg1_eq (fun k hk => getD_ge (by rw [candL_length]; omega)) (.inr ?_)
  rw [candL, getD_append, if_neg (by simp [candU_length]; omega)]
  have : w + 1 - 1 - ((candU xs ys d w).drop (d + 1 + w)).length = 0 := by simp [candU_length]; omega
  rw [this]
  decide
theorem foldl_top : ∀ (xs p : List UInt8) (m : Nat), deg1 p = m + 1 → p.getD m 0 = 1 → (xs.foldl lin p).getD (m + xs.length) 0 = 1
  | [], p, m, _, h => h
  | x :: xs, p, m, hd, h => by
    have := foldl_top xs (lin p x) (m + 1) (by rw [deg1_lin' (by omega), hd]) (by
      rw [getD_lin, deg1_zero (p := p) (k := m + 1) (by omega), zero_gmul, if_neg (by omega), zero_xor]
      exact h)
    rw [List.foldl_cons, List.length_cons, show m + (xs.length + 1) = m + 1 + xs.length by omega]
    exact this
theorem roots_top (xs : List UInt8) : (roots gmul xs).getD xs.length 0 = 1 := by
  rw [roots_foldl]
  have := foldl_top xs [1] 0 (deg1_eq (fun k hk => getD_ge (by simpa using hk)) (.inr (by decide))) rfl
  rwa [Nat.zero_add] at this
/-- The product of all x less a wrong point, of degree w. -/
def shiftL (p : List UInt8) (k : Nat) : List UInt8 := List.replicate k 0 ++ p
theorem hor_shift (x : UInt8) (p : List UInt8) : ∀ k, hor x (shiftL p k) = gmul (hor x p) (ppow x k)
  | 0 => by simp [shiftL, ppow, gmul_one]
  | k + 1 => by
    have : shiftL p (k + 1) = 0 :: shiftL p k := by simp [shiftL, List.replicate_succ]
    rw [this, hor_cons, hor_shift x p k, xor_zero, ppow, gmul_assoc]
theorem cand_back {xs ys p0 : List UInt8} {d w : Nat} (hu : unlike xs) (hd : deg1 p0 ≤ d + 1) (hw : (wrongL p0 xs ys xs.length).length ≤ w) (hn : 2 * w + d + 1 ≤ xs.length) :
    candOk xs ys d w ∧ candP xs ys d w = tl p0 := by
  -- a solution that there is
  let es := (wrongL p0 xs ys xs.length).map fun i => xs.getD i 0
  have hel : es.length ≤ w := by simpa [es] using hw
  let L0 := shiftL (roots gmul es) (w - es.length)
  have hL0l : L0.length = w + 1 := by simp [L0, shiftL, roots_length]; omega
  have hL0t : L0.getD w 0 = 1 := by
    have h1 : L0.getD w 0 = (roots gmul es).getD es.length 0 := by
      simp only [L0, shiftL, getD_append, List.length_replicate]
      rw [if_neg (by omega), show w - (w - es.length) = es.length by omega]
    rw [h1]
    exact roots_top es
  let l0 := L0.take w
  have hL0 : L0 = l0 ++ [1] := by
    refine ext0 (by simp [l0, hL0l]) fun k hk => ?_
    rw [getD_append]
    simp only [l0, List.length_take, hL0l]
    rw [Nat.min_eq_left (by omega)]
    by_cases h : k < w
    · rw [if_pos h, getD_take, if_pos h]
    · have : k = w := by omega
      subst this
      rw [if_neg h, hL0t]; simp
  let q0 := mk (d + 1 + w) fun k => cf p0 L0 k
  have hq0 : ∀ x, hor x q0 = gmul (hor x p0) (hor x L0) := fun x => by
    rw [← hor_conv]
    refine hor_congr fun k => ?_
    rw [getD_conv, mk_getD]
    split
    · rfl
    · have := deg1_le L0
      exact (cf_deg (by omega)).symm
  let u0 := q0 ++ l0
  have hl0l : l0.length = w := by simp [l0, hL0l]
  have hu0l : u0.length = d + 1 + 2 * w := by simp [u0, q0, mk_length, hl0l]; omega
  have ht0 : u0.take (d + 1 + w) = q0 := by
    have : q0.length = d + 1 + w := mk_length _ _
    simp only [u0]; rw [← this]; simp
  have hd0 : u0.drop (d + 1 + w) = l0 := by
    have : q0.length = d + 1 + w := mk_length _ _
    simp only [u0]; rw [← this]; simp
  have hsol : ∀ i, i < (rowsE xs ys d w xs.length).length → dotN (gM (rowsE xs ys d w xs.length)) (fun j => u0.getD j 0) (d + 1 + 2 * w) i = (rhssE xs ys w xs.length).getD i 0 := fun i hi => by
    rw [rowsE_length] at hi
    rw [dotE hi u0 hu0l, ht0, hd0, hq0, rhssE, mk_getD, if_pos hi, rhsE]
    have hLx : hor (xs.getD i 0) L0 = hor (xs.getD i 0) l0 ^^^ ppow (xs.getD i 0) w := by
      rw [hL0, hor_snoc, one_gmul, hl0l]
    by_cases hwr : hor (xs.getD i 0) p0 = ys.getD i 0
    · rw [hwr, hLx, gmul_xor]
      rw [UInt8.xor_comm (gmul (ys.getD i 0) (hor (xs.getD i 0) l0)), UInt8.xor_assoc, xor_self, xor_zero]
    · have hmem : xs.getD i 0 ∈ es := List.mem_map.2 ⟨i, wrongL_mem hi hwr, rfl⟩
      have hz : hor (xs.getD i 0) L0 = 0 := by
        show hor _ (shiftL _ _) = 0
        rw [hor_shift, (hor_roots _ _).2 hmem, zero_gmul]
      rw [hz, gmul_zero, zero_xor]
      have : hor (xs.getD i 0) l0 = ppow (xs.getD i 0) w := by
        rw [hz] at hLx
        exact xor_cancel hLx.symm
      rw [this]
  have hok := (slv_back hsol).1
  -- the solution that is found
  have hfound := slv_solves hok
  have hq : ∀ i, i < xs.length → hor (xs.getD i 0) (candQ xs ys d w) = gmul (ys.getD i 0) (hor (xs.getD i 0) (candL xs ys d w)) := fun i hi => by
    have h1 := hfound i (by rw [rowsE_length]; exact hi)
    have h1 : dotN (gM (rowsE xs ys d w xs.length)) (fun j => (candU xs ys d w).getD j 0) (d + 1 + 2 * w) i = _ := h1
    rw [dotE hi _ (candU_length xs ys d w), rhssE, mk_getD, if_pos hi, rhsE] at h1
    have h2 : hor (xs.getD i 0) (candL xs ys d w) = hor (xs.getD i 0) ((candU xs ys d w).drop (d + 1 + w)) ^^^ ppow (xs.getD i 0) w := by
      rw [candL, hor_snoc, one_gmul]
      congr 2
      simp [candU_length]; omega
    rw [h2, gmul_xor, ← h1]
    show _ = gmul (ys.getD i 0) (hor (xs.getD i 0) ((candU xs ys d w).drop (d + 1 + w))) ^^^ (hor (xs.getD i 0) (candQ xs ys d w) ^^^ gmul (ys.getD i 0) (hor (xs.getD i 0) ((candU xs ys d w).drop (d + 1 + w))))
    rw [UInt8.xor_comm (hor _ (candQ xs ys d w)), ← UInt8.xor_assoc, xor_self, zero_xor]
  have hprod : tl (candQ xs ys d w) = tl (conv gmul p0 (candL xs ys d w)) := by
    refine agree_one hu (n := d + 1 + w) ?_ ?_ ?_
    · have := deg1_le (candQ xs ys d w)
      have : (candQ xs ys d w).length = d + 1 + w := by simp [candQ, candU_length]; omega
      omega
    · refine deg1_le_of fun k hk => ?_
      rw [getD_conv]
      exact cf_deg (by rw [candL_deg]; omega)
    · have h1 := wrongL_cnt p0 xs ys xs.length
      rw [agN_cnt] at h1
      have h2 : cntP (fun i => decide (hor (xs.getD i 0) p0 = ys.getD i 0)) xs.length ≤ agree (candQ xs ys d w) (conv gmul p0 (candL xs ys d w)) xs := by
        refine cntP_mono fun i hi h3 => ?_
        simp only [decide_eq_true_eq] at h3 ⊢
        rw [hor_conv, hq i hi, h3]
      omega
  have hcoef : ∀ k, (candQ xs ys d w).getD k 0 = cf p0 (candL xs ys d w) k := fun k => by
    rw [← getD_tl, hprod, getD_tl, getD_conv]
  obtain ⟨h1, h2⟩ := div_unique (by rw [candL_deg]; omega) hcoef
  refine ⟨⟨hok, h2, ?_⟩, h1⟩
  rw [← tl_length, h1, tl_length]
  exact hd
end Go.Gf
