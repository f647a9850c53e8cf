/-
  Equations over the field, plain: rows made plain column by column, and what follows for their solutions.
-/
import Derived.Test.YtccgbgjhjpllcaaVRing
set_option linter.unusedVariables false
set_option linter.unusedSimpArgs false
namespace Go.Gf
abbrev M := Nat → Nat → UInt8
/-- The first row from k on (of n more) that has something in column c. -/
def findN (f : M) (c : Nat) : Nat → Nat → Nat
  | 0, k => k
  | n + 1, k => if f k c = 0 then findN f c n (k + 1) else k
def find (f : M) (c R k : Nat) : Nat := findN f c (R - k) k
theorem findN_spec (f : M) (c : Nat) : ∀ n k, k ≤ findN f c n k ∧ findN f c n k ≤ k + n ∧ (∀ i, k ≤ i → i < findN f c n k → f i c = 0) ∧ (findN f c n k < k + n → f (findN f c n k) c ≠ 0)
  | 0, k => ⟨Nat.le_refl _, Nat.le_refl _, fun i h1 h2 => absurd h2 (Nat.not_lt.2 h1), fun h => absurd h (Nat.lt_irrefl _)⟩
  | n + 1, k => by
    rw [findN]
    by_cases h : f k c = 0
    · rw [if_pos h]
      obtain ⟨h1, h2, h3, h4⟩ := findN_spec f c n (k + 1)
      refine ⟨by omega, by omega, fun i hi hi2 => ?_, fun h5 => h4 (by omega)⟩
      by_cases e : i = k
      · subst e; exact h
      · exact h3 i (by omega) hi2
    · rw [if_neg h]
      exact ⟨Nat.le_refl _, by omega, fun i h1 h2 => by omega, fun _ => h⟩
theorem find_spec {f : M} {c R k : Nat} (hk : k ≤ R) : k ≤ find f c R k ∧ find f c R k ≤ R ∧ (∀ i, k ≤ i → i < find f c R k → f i c = 0) ∧ (find f c R k < R → f (find f c R k) c ≠ 0) := by
  obtain ⟨h1, h2, h3, h4⟩ := findN_spec f c (R - k) k
  exact ⟨h1, by unfold find; omega, h3, fun h => h4 (by unfold find at h; omega)⟩
theorem findN_congr {f g : M} {c : Nat} : ∀ {n k : Nat}, (∀ i, f i c = g i c) → findN f c n k = findN g c n k
  | 0, _, _ => rfl
  | n + 1, k, h => by rw [findN, findN, h k, findN_congr h]
/-- Rows change places; a row is multiplied; a row is added to all others. -/
def swp (f : M) (a b : Nat) : M := fun i j => if i = b then f a j else if i = a then f b j else f i j
def scl (f : M) (k : Nat) (v : UInt8) : M := fun i j => if i = k then gmul (f k j) v else f i j
def elm (f : M) (k c : Nat) : M := fun i j => if i = k then f k j else f i j ^^^ gmul (f i c) (f k j)
def piv (f : M) (k r c : Nat) : M := elm (scl (swp f k r) k (ginv (swp f k r k c))) k c
def stepF (R c : Nat) (s : M × List Nat) : M × List Nat :=
  if find s.1 c R s.2.length < R then (piv s.1 s.2.length (find s.1 c R s.2.length) c, s.2 ++ [c]) else s
def redF (R : Nat) (f : M) : Nat → M × List Nat
  | 0 => (f, [])
  | c + 1 => stepF R c (redF R f c)

/-! ### Columns that are not looked at -/
theorem piv_cols {f g : M} {w : Nat} (h : ∀ i j, j < w → f i j = g i j) {k r c : Nat} (hc : c < w) : ∀ i j, j < w → piv f k r c i j = piv g k r c i j := by
  intro i j hj
  simp only [piv, elm, scl, swp]
  simp only [h _ j hj, h _ c hc]
theorem redF_cols {f g : M} {w R : Nat} (h : ∀ i j, j < w → f i j = g i j) : ∀ c, c ≤ w → (redF R f c).2 = (redF R g c).2 ∧ ∀ i j, j < w → (redF R f c).1 i j = (redF R g c).1 i j
  | 0, _ => ⟨rfl, h⟩
  | c + 1, hc => by
    obtain ⟨h1, h2⟩ := redF_cols h c (by omega)
    have hf : find (redF R f c).1 c R (redF R f c).2.length = find (redF R g c).1 c R (redF R g c).2.length := by
      unfold find; rw [h1]; exact findN_congr fun i => h2 i c (by omega)
    simp only [redF, stepF]
    rw [hf, h1]
    split
    · exact ⟨rfl, piv_cols h2 (by omega)⟩
    · exact ⟨h1, h2⟩

/-! ### What holds of rows made plain -/
structure Plain (R c : Nat) (g : M) (own : List Nat) : Prop where
  le : own.length ≤ R
  lt : ∀ t, t < own.length → own.getD t 0 < c
  up : ∀ s t, s < t → t < own.length → own.getD s 0 < own.getD t 0
  one : ∀ t, t < own.length → g t (own.getD t 0) = 1
  nought : ∀ i t, i < R → t < own.length → i ≠ t → g i (own.getD t 0) = 0
  rest : ∀ i j, own.length ≤ i → i < R → j < c → g i j = 0
theorem getD_app {own : List Nat} {c t : Nat} : (own ++ [c]).getD t 0 = if t < own.length then own.getD t 0 else if t = own.length then c else 0 := by
  simp only [List.getD_eq_getElem?_getD, List.getElem?_append]
  split
  · rfl
  · rename_i h
    by_cases e : t = own.length
    · simp [e]
    · rw [if_neg e, List.getElem?_eq_none (by simp; omega)]; rfl
theorem redF_plain (R : Nat) (f : M) : ∀ c, Plain R c (redF R f c).1 (redF R f c).2
  | 0 => ⟨Nat.zero_le _, fun t h => absurd h (Nat.not_lt_zero _), fun s t _ h => absurd h (Nat.not_lt_zero _), fun t h => absurd h (Nat.not_lt_zero _), fun i t _ h => absurd h (Nat.not_lt_zero _), fun i j _ _ h => absurd h (Nat.not_lt_zero _)⟩
  | c + 1 => by
    have P := redF_plain R f c
    simp only [redF, stepF]
    generalize redF R f c = s at P
    obtain ⟨g, own⟩ := s
    obtain ⟨p1, p2, p3, p4, p5, p6⟩ := P
    simp only at p1 p2 p3 p4 p5 p6 ⊢
    obtain ⟨f1, f2, f3, f4⟩ := find_spec (f := g) (c := c) p1
    generalize hr : find g c R own.length = r at f1 f2 f3 f4
    split
    · rename_i hlt
      have hne := f4 hlt
      have hinv : ginv (g r c) ≠ 0 := ginv_ne hne
      show Plain R (c + 1) (piv g own.length r c) (own ++ [c])
      have hsk : ∀ j, swp g own.length r own.length j = g r j := fun j => by
        unfold swp
        by_cases e : own.length = r
        · rw [if_pos e, e]
        · rw [if_neg e, if_pos rfl]
      have hpk : ∀ j, piv g own.length r c own.length j = gmul (g r j) (ginv (g r c)) := fun j => by
        simp only [piv, elm, scl, if_pos, hsk]
      have hpi : ∀ i j, i ≠ own.length → piv g own.length r c i j = (if i = r then g own.length j else g i j) ^^^ gmul (if i = r then g own.length c else g i c) (gmul (g r j) (ginv (g r c))) := fun i j hi => by
        simp only [piv, elm, scl, if_neg hi, if_pos, hsk]
        simp only [swp, if_neg hi]
      refine ⟨by simp; omega, fun t ht => ?_, fun s t hst ht => ?_, fun t ht => ?_, fun i t hi ht hne' => ?_, fun i j hi hiR hj => ?_⟩
      · simp only [List.length_append, List.length_singleton] at ht
        rw [getD_app]
        split
        · have := p2 t (by assumption); omega
        · split <;> omega
      · simp only [List.length_append, List.length_singleton] at ht
        rw [getD_app, getD_app, if_pos (show s < own.length by omega)]
        split
        · exact p3 s t hst (by assumption)
        · rw [if_pos (by omega)]; exact p2 s (by omega)
      · simp only [List.length_append, List.length_singleton] at ht
        rw [getD_app]
        split
        · rename_i h
          rw [hpi t _ (by omega), if_neg (show t ≠ r by omega)]
          have h0 : g r (own.getD t 0) = 0 := p5 r t hlt h (by omega)
          rw [h0, zero_gmul, gmul_zero, xor_zero]
          exact p4 t h
        · have e : t = own.length := by omega
          rw [if_pos e, e, hpk]
          exact gmul_inv hne
      · simp only [List.length_append, List.length_singleton] at ht
        rw [getD_app]
        split
        · rename_i h
          have h0 : g r (own.getD t 0) = 0 := p5 r t hlt h (by omega)
          by_cases e : i = own.length
          · rw [e, hpk, h0, zero_gmul]
          · rw [hpi i _ e, h0, zero_gmul, gmul_zero, xor_zero]
            split
            · exact p5 own.length t (by omega) h (by omega)
            · exact p5 i t hi h hne'
        · have e : t = own.length := by omega
          rw [if_pos e]
          have e' : i ≠ own.length := by omega
          rw [hpi i c e', gmul_inv hne, gmul_one, xor_self]
      · simp only [List.length_append, List.length_singleton] at hi
        have e' : i ≠ own.length := by omega
        rw [hpi i j e']
        by_cases e : j = c
        · subst e
          rw [gmul_inv hne, gmul_one, xor_self]
        · rw [p6 r j (by omega) hlt (by omega), zero_gmul, gmul_zero, xor_zero]
          split
          · exact p6 own.length j (Nat.le_refl _) (by omega) (by omega)
          · exact p6 i j (by omega) hiR (by omega)
    · rename_i hge
      show Plain R (c + 1) g own
      refine ⟨p1, fun t ht => by have := p2 t ht; omega, p3, p4, p5, fun i j hi hiR hj => ?_⟩
      by_cases e : j = c
      · subst e; exact f3 i hi (by omega)
      · exact p6 i j hi hiR (by omega)

/-! ### Solutions stay -/
def dotN (f : M) (x : Nat → UInt8) (W i : Nat) : UInt8 := xsum (fun j => gmul (f i j) (x j)) W
/-- x makes all rows 0. -/
def Ker (f : M) (R W : Nat) (x : Nat → UInt8) : Prop := ∀ i, i < R → dotN f x W i = 0
theorem dot_scl (v : UInt8) (f : Nat → UInt8) (x : Nat → UInt8) (W : Nat) : xsum (fun j => gmul (gmul (f j) v) (x j)) W = gmul v (xsum (fun j => gmul (f j) (x j)) W) := by
  rw [← xsum_mul]
  refine xsum_congr fun j _ => ?_
  rw [gmul_comm (f j) v, gmul_assoc]
theorem ker_swp {f : M} {a b R W : Nat} (ha : a < R) (hb : b < R) (x : Nat → UInt8) : Ker (swp f a b) R W x ↔ Ker f R W x := by
  have h : ∀ i, dotN (swp f a b) x W i = dotN f x W (if i = b then a else if i = a then b else i) := fun i => by
    unfold dotN
    refine xsum_congr fun j _ => ?_
    simp only [swp]
    split
    · rfl
    · split <;> rfl
  constructor
  · intro k i hi
    have := k (if i = b then a else if i = a then b else i) (by split <;> (try split) <;> omega)
    rw [h] at this
    have e : (if (if i = b then a else if i = a then b else i) = b then a else if (if i = b then a else if i = a then b else i) = a then b else (if i = b then a else if i = a then b else i)) = i := by
      split <;> split <;> (try split) <;> (try split) <;> omega
    rwa [e] at this
  · intro k i hi
    rw [h]
    exact k _ (by split <;> (try split) <;> omega)
theorem ker_scl {f : M} {k R W : Nat} {v : UInt8} (hv : v ≠ 0) (x : Nat → UInt8) : Ker (scl f k v) R W x ↔ Ker f R W x := by
  have h : ∀ i, dotN (scl f k v) x W i = if i = k then gmul v (dotN f x W k) else dotN f x W i := fun i => by
    unfold dotN
    by_cases e : i = k
    · subst e
      rw [if_pos rfl, ← dot_scl]
      refine xsum_congr fun j _ => ?_
      simp only [scl, if_pos]
    · rw [if_neg e]
      refine xsum_congr fun j _ => ?_
      simp only [scl, if_neg e]
  constructor
  · intro q i hi
    have := q i hi
    rw [h] at this
    by_cases e : i = k
    · subst e
      rw [if_pos rfl] at this
      exact (gmul_eq_zero.1 this).resolve_left hv
    · rwa [if_neg e] at this
  · intro q i hi
    rw [h]
    split
    · rename_i e; subst e; rw [q i hi, gmul_zero]
    · exact q i hi
theorem ker_elm {f : M} {k c R W : Nat} (hk : k < R) (x : Nat → UInt8) : Ker (elm f k c) R W x ↔ Ker f R W x := by
  have h : ∀ i, dotN (elm f k c) x W i = if i = k then dotN f x W k else dotN f x W i ^^^ gmul (f i c) (dotN f x W k) := fun i => by
    unfold dotN
    by_cases e : i = k
    · subst e
      rw [if_pos rfl]
      refine xsum_congr fun j _ => ?_
      simp only [elm, if_pos]
    · rw [if_neg e, ← xsum_mul, ← xsum_xor]
      refine xsum_congr fun j _ => ?_
      simp only [elm, if_neg e, xor_gmul, gmul_assoc]
  have hkk : ∀ q : Ker (elm f k c) R W x, dotN f x W k = 0 := fun q => by
    have := q k hk
    rwa [h, if_pos rfl] at this
  constructor
  · intro q i hi
    have := q i hi
    rw [h] at this
    by_cases e : i = k
    · subst e; rwa [if_pos rfl] at this
    · rw [if_neg e, hkk q, gmul_zero, xor_zero] at this; exact this
  · intro q i hi
    rw [h, q k hk]
    split
    · rfl
    · rw [q i hi, gmul_zero]; rfl
theorem redF_ker (R W : Nat) (f : M) (x : Nat → UInt8) : ∀ c, (Ker (redF R f c).1 R W x ↔ Ker f R W x)
  | 0 => Iff.rfl
  | c + 1 => by
    have ih := redF_ker R W f x c
    have P := redF_plain R f c
    simp only [redF, stepF]
    generalize redF R f c = s at P ih
    obtain ⟨g, own⟩ := s
    simp only at P ih ⊢
    obtain ⟨f1, f2, f3, f4⟩ := find_spec (f := g) (c := c) P.le
    generalize hr : find g c R own.length = r at f1 f2 f3 f4
    split
    · rename_i hlt
      simp only
      have hsk : swp g own.length r own.length c = g r c := by
        unfold swp
        by_cases e : own.length = r
        · rw [if_pos e, e]
        · rw [if_neg e, if_pos rfl]
      rw [piv, hsk, ker_elm (by omega), ker_scl (ginv_ne (f4 hlt)), ker_swp (by omega) hlt]
      exact ih
    · exact ih
end Go.Gf
