/-
  Equations over the field, plain: matrices as lists, the solution, what the laws ask.
-/
import Derived.Test.YtccgbgjhjpllcaaVSolveP
set_option linter.unusedVariables false
set_option linter.unusedSimpArgs false
namespace Go.Gf
def mk2 (R W : Nat) (f : M) : List (List UInt8) := (List.range R).map fun i => mk W (f i)
theorem mk2_length (R W : Nat) (f : M) : (mk2 R W f).length = R := by simp [mk2]
theorem mk2_row {R W : Nat} {f : M} {i : Nat} (hi : i < R) : (mk2 R W f).getD i [] = mk W (f i) := by
  simp [mk2, List.getD_eq_getElem?_getD, List.getElem?_range, hi]
theorem mk2_get {R W : Nat} {f : M} {i j : Nat} (hi : i < R) (hj : j < W) : ((mk2 R W f).getD i []).getD j 0 = f i j := by
  rw [mk2_row hi, mk_getD, if_pos hj]
theorem mk_congr {W : Nat} {f g : Nat → UInt8} (h : ∀ j, j < W → f j = g j) : mk W f = mk W g := by
  refine ext0 (by simp [mk_length]) fun k hk => ?_
  rw [mk_length] at hk
  rw [mk_getD, mk_getD, if_pos hk, if_pos hk, h k hk]
theorem mk2_congr {R W : Nat} {f g : M} (h : ∀ i j, i < R → j < W → f i j = g i j) : mk2 R W f = mk2 R W g := by
  unfold mk2
  refine List.map_congr_left fun i hi => mk_congr fun j hj => h i j (List.mem_range.1 hi) hj
theorem list2_ext {a b : List (List UInt8)} (hl : a.length = b.length) (h : ∀ k, k < a.length → a.getD k [] = b.getD k []) : a = b := by
  refine List.ext_getElem hl fun k h1 h2 => ?_
  have := h k h1
  simpa [List.getD_eq_getElem?_getD, List.getElem?_eq_getElem h1, List.getElem?_eq_getElem h2] using this
theorem getD_set2 {l : List (List UInt8)} {i k : Nat} {v : List UInt8} : (l.set i v).getD k [] = if k = i ∧ i < l.length then v else l.getD k [] := by
  simp only [List.getD_eq_getElem?_getD, List.getElem?_set]
  by_cases h : i = k
  · subst h
    by_cases h2 : i < l.length
    · simp [h2]
    · simp [h2]
  · have h' : ¬ (k = i ∧ i < l.length) := fun e => h e.1.symm
    rw [if_neg h', if_neg h]
theorem mk2_put {R W : Nat} {f g : M} {i j : Nat} {v : UInt8} (hi : i < R) (hj : j < W) (h : ∀ a b, a < R → b < W → g a b = if a = i ∧ b = j then v else f a b) :
    (mk2 R W f).set i (((mk2 R W f).getD i []).set j v) = mk2 R W g := by
  refine list2_ext (by simp [mk2_length]) fun k hk => ?_
  rw [List.length_set, mk2_length] at hk
  rw [getD_set2, mk2_length, mk2_row hi, mk2_row (f := g) hk]
  split
  · rename_i hki
    obtain ⟨rfl, _⟩ := hki
    refine ext0 (by simp [mk_length]) fun b hb => ?_
    rw [List.length_set, mk_length] at hb
    rw [getD_set, mk_length, mk_getD, mk_getD, if_pos hb, if_pos hb, h k b hk hb]
    by_cases e : b = j
    · rw [if_pos ⟨e, hj⟩, if_pos ⟨rfl, e⟩]
    · rw [if_neg fun x => e x.1, if_neg fun x => e x.2]
  · rename_i hki
    rw [mk2_row hk]
    refine mk_congr fun b hb => ?_
    rw [h k b hk hb, if_neg fun x => hki ⟨x.1, hi⟩]
theorem mk2_swap {R W : Nat} {f : M} {i j : Nat} (hi : i < R) (hj : j < R) : ((mk2 R W f).set i ((mk2 R W f).getD j [])).set j ((mk2 R W f).getD i []) = mk2 R W (swp f i j) := by
  refine list2_ext (by simp [mk2_length]) fun k hk => ?_
  rw [List.length_set, List.length_set, mk2_length] at hk
  rw [getD_set2, List.length_set, mk2_length, getD_set2, mk2_length, mk2_row hi, mk2_row hj, mk2_row (f := swp f i j) hk]
  by_cases e : k = j
  · rw [if_pos ⟨e, hj⟩]
    refine mk_congr fun b _ => ?_
    simp only [swp, if_pos e]
  · rw [if_neg fun x => e x.1]
    by_cases e' : k = i
    · rw [if_pos ⟨e', hi⟩]
      refine mk_congr fun b _ => ?_
      simp only [swp, if_neg e, if_pos e']
    · rw [if_neg fun x => e' x.1, mk2_row hk]
      refine mk_congr fun b _ => ?_
      simp only [swp, if_neg e, if_neg e']
def gM (m : List (List UInt8)) : M := fun i j => (m.getD i []).getD j 0
/-- All rows are as long. -/
def rect (m : List (List UInt8)) : Prop := ∀ k, k < m.length → (m.getD k []).length = (m.getD 0 []).length
theorem rect_mk2 {m : List (List UInt8)} (h : rect m) : m = mk2 m.length (m.getD 0 []).length (gM m) := by
  refine list2_ext (by simp [mk2_length]) fun k hk => ?_
  rw [mk2_row hk]
  refine ext0 (by rw [mk_length]; exact h k hk) fun j hj => ?_
  rw [mk_getD, if_pos (by rw [← h k hk]; exact hj)]
  rfl
/-- A byte more behind each row. -/
def aug (m : List (List UInt8)) (n : Nat) (b : List UInt8) : M := fun i j => if j < n then gM m i j else b.getD i 0
/-- What the columns are multiplied by. -/
def xo (g : M) (n : Nat) (own : List Nat) : Nat → Nat → UInt8
  | 0, _ => 0
  | t + 1, j => if j = own.getD t 0 then g t n else xo g n own t j
def one1 (x : Nat → UInt8) (n : Nat) : Nat → UInt8 := fun j => if j < n then x j else 1
section
variable {R n : Nat} {g : M} {own : List Nat}
theorem xo_free {j : Nat} : ∀ {k : Nat}, (∀ t, t < k → own.getD t 0 ≠ j) → xo g n own k j = 0
  | 0, _ => rfl
  | k + 1, h => by rw [xo, if_neg (fun e => h k (by omega) e.symm), xo_free fun t ht => h t (by omega)]
theorem xo_own {c : Nat} (P : Plain R c g own) {t : Nat} : ∀ {k : Nat}, t < k → k ≤ own.length → xo g n own k (own.getD t 0) = g t n
  | 0, h, _ => absurd h (Nat.not_lt_zero _)
  | k + 1, h, hk => by
    rw [xo]
    by_cases e : t = k
    · subst e; rw [if_pos rfl]
    · rw [if_neg (fun x => by have := P.up t k (by omega) (by omega); omega), xo_own P (by omega) (by omega)]
def solOk (R n : Nat) (g : M) (own : List Nat) : Prop := ∀ i, own.length ≤ i → i < R → g i n = 0
/-- A row that has a column of its own, times anything. -/
theorem dot_row (P : Plain R n g own) (x : Nat → UInt8) {t : Nat} (ht : t < own.length) (hx : ∀ j, j < n → (∀ s, s < own.length → own.getD s 0 ≠ j) → x j = 0) : dotN g x n t = x (own.getD t 0) := by
  unfold dotN
  rw [xsum_one (P.lt t ht)]
  · rw [P.one t ht, one_gmul]
  · intro j hj hne
    by_cases h : ∃ s, s < own.length ∧ own.getD s 0 = j
    · obtain ⟨s, hs, rfl⟩ := h
      rw [P.nought t s (by have := P.le; omega) hs (fun e => hne (by rw [e])), zero_gmul]
    · rw [hx j hj fun s hs e => h ⟨s, hs, e⟩, gmul_zero]
theorem dot_rest (P : Plain R n g own) (x : Nat → UInt8) {i : Nat} (h1 : own.length ≤ i) (h2 : i < R) : dotN g x n i = 0 :=
  xsum_zero fun j hj => by rw [P.rest i j h1 h2 hj, zero_gmul]
theorem dot_one1 (g : M) (x : Nat → UInt8) (n i : Nat) : dotN g (one1 x n) (n + 1) i = dotN g x n i ^^^ g i n := by
  unfold dotN
  rw [xsum]
  have e : one1 x n n = 1 := by simp [one1]
  rw [e, gmul_one]
  congr 1
  exact xsum_congr fun j hj => by simp [one1, hj]
theorem sol_ker (P : Plain R n g own) (h : solOk R n g own) : Ker g R (n + 1) (one1 (xo g n own own.length) n) := by
  intro i hi
  rw [dot_one1]
  by_cases hlt : i < own.length
  · rw [dot_row P _ hlt fun j _ hf => xo_free hf, xo_own P hlt (Nat.le_refl _), xor_self]
  · rw [dot_rest P _ (by omega) hi, h i (by omega) hi]; rfl
theorem ker_sol (P : Plain R n g own) {x : Nat → UInt8} (h : Ker g R (n + 1) (one1 x n)) : solOk R n g own := by
  intro i h1 h2
  have := h i h2
  rw [dot_one1, dot_rest P _ h1 h2, zero_xor] at this
  exact this
theorem own_le (P : Plain R n g own) : ∀ t, t < own.length → t ≤ own.getD t 0
  | 0, _ => Nat.zero_le _
  | t + 1, h => by have := own_le P t (by omega); have := P.up t (t + 1) (by omega) h; omega
theorem own_len (P : Plain R n g own) : own.length ≤ n := by
  cases h : own.length with
  | zero => omega
  | succ k => have := own_le P k (by omega); have := P.lt k (by omega); omega
theorem own_up (P : Plain R n g own) {t : Nat} : ∀ d, t + d < own.length → own.getD t 0 + d ≤ own.getD (t + d) 0
  | 0, _ => Nat.le_refl _
  | d + 1, h => by have := own_up P (t := t) d (by omega); have := P.up (t + d) (t + (d + 1)) (by omega) h; omega
theorem own_full (P : Plain R n g own) (h : n ≤ own.length) {t : Nat} (ht : t < n) : own.getD t 0 = t := by
  have h1 := own_le P t (by omega)
  have h2 := own_up P (t := t) (own.length - 1 - t) (by omega)
  have h3 := P.lt (own.length - 1) (by omega)
  have e : t + (own.length - 1 - t) = own.length - 1 := by omega
  rw [e] at h2
  have := own_len P
  omega
theorem ker_uniq (P : Plain R n g own) (hn : n ≤ own.length) {x : Nat → UInt8} (h : Ker g R (n + 1) (one1 x n)) : ∀ j, j < n → x j = xo g n own own.length j := by
  intro j hj
  have hl := own_len P
  have h1 := h j (by have := P.le; omega)
  rw [dot_one1, dot_row P x (by omega) (fun i hi hf => absurd (own_full P hn hi) (hf i (by omega))), own_full P hn hj] at h1
  have h2 := xo_own (n := n) P (t := j) (k := own.length) (by omega) (Nat.le_refl _)
  rw [own_full P hn hj] at h2
  rw [h2]
  exact xor_cancel h1
end
/-- The rows of the equations, made plain. -/
theorem aug_cols (m : List (List UInt8)) (n : Nat) (b : List UInt8) : ∀ i j, j < n → aug m n b i j = gM m i j := fun i j hj => by simp [aug, hj]
theorem aug_ker {m : List (List UInt8)} {n R : Nat} {b : List UInt8} {x : Nat → UInt8} : Ker (aug m n b) R (n + 1) (one1 x n) ↔ ∀ i, i < R → dotN (gM m) x n i = b.getD i 0 := by
  have h : ∀ i, dotN (aug m n b) (one1 x n) (n + 1) i = dotN (gM m) x n i ^^^ b.getD i 0 := fun i => by
    rw [dot_one1]
    have e : aug m n b i n = b.getD i 0 := by simp [aug]
    rw [e]
    congr 1
    exact xsum_congr fun j hj => by rw [aug_cols m n b i j hj]
  constructor
  · intro k i hi
    have := k i hi
    rw [h] at this
    exact xor_cancel this
  · intro k i hi
    rw [h, k i hi, xor_self]
/-- The answer of Solve. -/
def slv (m : List (List UInt8)) (n : Nat) (b : List UInt8) : M × List Nat := redF m.length (aug m n b) n
def slvOk (m : List (List UInt8)) (n : Nat) (b : List UInt8) : Prop := solOk m.length n (slv m n b).1 (slv m n b).2
def slvX (m : List (List UInt8)) (n : Nat) (b : List UInt8) : List UInt8 := mk n (xo (slv m n b).1 n (slv m n b).2 (slv m n b).2.length)
def rankL (m : List (List UInt8)) (n : Nat) : List Nat := (redF m.length (gM m) n).2
theorem slv_own (m : List (List UInt8)) (n : Nat) (b : List UInt8) : (slv m n b).2 = rankL m n := (redF_cols (aug_cols m n b) n (Nat.le_refl _)).1
theorem slv_solves {m : List (List UInt8)} {n : Nat} {b : List UInt8} (h : slvOk m n b) : ∀ i, i < m.length → dotN (gM m) (fun j => (slvX m n b).getD j 0) n i = b.getD i 0 := by
  have h1 := (redF_ker m.length (n + 1) (aug m n b) _ n).1 (sol_ker (redF_plain m.length (aug m n b) n) h)
  have h2 := aug_ker.1 h1
  intro i hi
  rw [← h2 i hi]
  unfold dotN
  refine xsum_congr fun j hj => ?_
  show gmul (gM m i j) ((slvX m n b).getD j 0) = _
  rw [slvX, mk_getD, if_pos hj]
  rfl
theorem slv_free {m : List (List UInt8)} {n : Nat} {b : List UInt8} {j : Nat} (h : ∀ t, t < (rankL m n).length → (rankL m n).getD t 0 ≠ j) : (slvX m n b).getD j 0 = 0 := by
  rw [slvX, mk_getD]
  split
  · exact xo_free fun t ht => by rw [slv_own] at ht ⊢; exact h t ht
  · rfl
theorem slv_back {m : List (List UInt8)} {n : Nat} {b : List UInt8} {x : Nat → UInt8} (h : ∀ i, i < m.length → dotN (gM m) x n i = b.getD i 0) : slvOk m n b ∧ (n ≤ (rankL m n).length → ∀ j, j < n → x j = (slvX m n b).getD j 0) := by
  have h1 := (redF_ker m.length (n + 1) (aug m n b) _ n).2 (aug_ker.2 h)
  have P := redF_plain m.length (aug m n b) n
  refine ⟨ker_sol P h1, fun hn j hj => ?_⟩
  rw [← slv_own m n b] at hn
  rw [ker_uniq P hn h1 j hj, slvX, mk_getD, if_pos hj]
  rfl
/-- The plain columns of the equations with what they come to behind. -/
theorem redF_last {m : List (List UInt8)} {n : Nat} {b : List UInt8} : (rankL m n).length < (redF m.length (aug m n b) (n + 1)).2.length ↔ ¬ slvOk m n b := by
  have P := redF_plain m.length (aug m n b) n
  obtain ⟨f1, f2, f3, f4⟩ := find_spec (f := (slv m n b).1) (c := n) (R := m.length) (k := (slv m n b).2.length) P.le
  have e : redF m.length (aug m n b) (n + 1) = stepF m.length n (slv m n b) := rfl
  rw [e, ← slv_own m n b]
  unfold stepF
  split
  · rename_i h
    simp only [List.length_append, List.length_singleton]
    refine ⟨fun _ hk => f4 h (hk _ f1 h), fun _ => by omega⟩
  · rename_i h
    refine ⟨fun hk => absurd hk (Nat.lt_irrefl _), fun hk => absurd (fun i h1 h2 => f3 i h1 (by omega)) hk⟩
theorem rankL_lt (m : List (List UInt8)) (n : Nat) : ∀ t, t < (rankL m n).length → (rankL m n).getD t 0 < n := (redF_plain m.length (gM m) n).lt
theorem rankL_up (m : List (List UInt8)) (n : Nat) : ∀ s t, s < t → t < (rankL m n).length → (rankL m n).getD s 0 < (rankL m n).getD t 0 := (redF_plain m.length (gM m) n).up
end Go.Gf
