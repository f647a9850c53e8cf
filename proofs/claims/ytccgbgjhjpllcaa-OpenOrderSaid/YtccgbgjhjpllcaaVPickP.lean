/-
  All choices of some places, plain.
-/
import Derived.Test.YtccgbgjhjpllcaaVBwP
set_option linter.unusedVariables false
set_option linter.unusedSimpArgs false
namespace Go.Gf
/-- All ways to pick some of so many, each rising. -/
def pk : Nat → Nat → List (List Nat)
  | 0, _ => [[]]
  | s + 1, n => (List.range' s (n - s)).flatMap fun last => (pk s last).map (· ++ [last])
def pkTo (s k : Nat) : List (List Nat) := (List.range' s k).flatMap fun last => (pk s last).map (· ++ [last])
theorem pk_succ (s n : Nat) : pk (s + 1) n = pkTo s (n - s) := rfl
theorem pkTo_succ (s k : Nat) : pkTo s (k + 1) = pkTo s k ++ (pk s (s + k)).map (· ++ [s + k]) := by
  unfold pkTo
  rw [List.range'_1_concat, List.flatMap_append]
  simp
theorem pk_length : ∀ s n, (pk s n).length ≤ 2 ^ n
  | 0, n => by simp [pk]; exact Nat.one_le_two_pow
  | s + 1, n => by
    have key : ∀ k, (pkTo s k).length ≤ 2 ^ (s + k) := by
      intro k
      induction k with
      | zero => simp [pkTo]
      | succ k ih =>
        rw [pkTo_succ, List.length_append, List.length_map]
        have := pk_length s (s + k)
        rw [show s + (k + 1) = (s + k) + 1 by omega, Nat.pow_succ]
        omega
    rw [pk_succ]
    by_cases h : s ≤ n
    · have := key (n - s)
      rwa [show s + (n - s) = n by omega] at this
    · rw [show n - s = 0 by omega]
      simp [pkTo]
theorem pk_each : ∀ (s n : Nat) (l : List Nat), l ∈ pk s n → l.length = s ∧ (∀ i, i < l.length → l.getD i 0 < n) ∧ ∀ i j, i < j → j < l.length → l.getD i 0 < l.getD j 0
  | 0, n, l, h => by
    simp only [pk, List.mem_singleton] at h
    subst h
    exact ⟨rfl, fun i hi => absurd hi (by simp), fun i j _ hj => absurd hj (by simp)⟩
  | s + 1, n, l, h => by
    simp only [pk, List.mem_flatMap, List.mem_map, List.mem_range'_1] at h
    obtain ⟨last, ⟨h1, h2⟩, l', hl', rfl⟩ := h
    obtain ⟨i1, i2, i3⟩ := pk_each s last l' hl'
    have hg : ∀ i, (l' ++ [last]).getD i 0 = if i < l'.length then l'.getD i 0 else if i = l'.length then last else 0 := fun i => by
      simp only [List.getD_eq_getElem?_getD, List.getElem?_append]
      split
      · rfl
      · rename_i hh
        by_cases e : i = l'.length
        · simp [e]
        · rw [if_neg e, List.getElem?_eq_none (by simp; omega)]; rfl
    refine ⟨by simp [i1], fun i hi => ?_, fun i j hij hj => ?_⟩
    · simp only [List.length_append, List.length_singleton] at hi
      rw [hg]
      split
      · have := i2 i (by assumption); omega
      · rw [if_pos (by omega)]; omega
    · simp only [List.length_append, List.length_singleton] at hj
      rw [hg, hg, if_pos (show i < l'.length by omega)]
      split
      · exact i3 i j hij (by assumption)
      · rw [if_pos (by omega)]; exact i2 i (by omega)
/-- Every rising choice is among them. -/
theorem pk_all : ∀ (s n : Nat) (z : Nat → Nat), (∀ i, i < s → z i < n) → (∀ i j, i < j → j < s → z i < z j) → (List.range s).map z ∈ pk s n
  | 0, n, z, _, _ => by simp [pk]
  | s + 1, n, z, h1, h2 => by
    simp only [pk, List.mem_flatMap, List.mem_map, List.mem_range'_1]
    have hge : ∀ i, i ≤ s → i ≤ z i := by
      intro i
      induction i with
      | zero => intro _; exact Nat.zero_le _
      | succ i ih => intro hi; have := ih (by omega); have := h2 i (i + 1) (by omega) (by omega); omega
    refine ⟨z s, ⟨hge s (Nat.le_refl _), by have := h1 s (by omega); have := hge s (Nat.le_refl _); omega⟩, (List.range s).map z, pk_all s (z s) z (fun i hi => h2 i s hi (by omega)) (fun i j hij hj => h2 i j hij (by omega)), ?_⟩
    rw [List.range_succ, List.map_append]
    rfl
def pick (xs : List UInt8) (l : List Nat) : List UInt8 := l.map fun i => xs.getD i 0
theorem pick_length (xs : List UInt8) (l : List Nat) : (pick xs l).length = l.length := by simp [pick]
theorem getD_pick {xs : List UInt8} {l : List Nat} {i : Nat} (hi : i < l.length) : (pick xs l).getD i 0 = xs.getD (l.getD i 0) 0 := by
  simp [pick, List.getD_eq_getElem?_getD, List.getElem?_eq_getElem hi]
theorem pick_take {xs : List UInt8} {l : List Nat} {j : Nat} (hj : j < l.length) : pick xs (l.take (j + 1)) = pick xs (l.take j) ++ [xs.getD (l.getD j 0) 0] := by
  have e : l.take (j + 1) = l.take j ++ [l.getD j 0] := by
    rw [List.take_add_one, List.getElem?_eq_getElem hj]
    simp [List.getD_eq_getElem?_getD, List.getElem?_eq_getElem hj]
  rw [e, pick, pick, List.map_append]
  rfl
theorem pick_unlike {xs : List UInt8} {l : List Nat} {s n : Nat} (hu : unlike xs) (hn : n ≤ xs.length) (hl : l ∈ pk s n) : unlike (pick xs l) := by
  obtain ⟨h1, h2, h3⟩ := pk_each s n l hl
  intro i hi j hj
  rw [pick_length] at hi
  rw [getD_pick hi, getD_pick (by omega)]
  have := h3 j i hj hi
  have := h2 i hi
  have := h2 j (by omega)
  exact unlike_ne hu (by omega) (by omega) (by omega)
/-- The polynomial through the picked points. -/
def pickP (xs ys : List UInt8) (l : List Nat) : List UInt8 := rthrN (pick xs l) (pick ys l) l.length
theorem pickP_len {xs ys : List UInt8} (l : List Nat) : (pickP xs ys l).length ≤ l.length := by
  have := rthrN_len (xs := pick xs l) (ys := pick ys l) l.length (by rw [pick_length]; omega)
  rwa [pick_length] at this
theorem pickP_tl (xs ys : List UInt8) (l : List Nat) : tl (pickP xs ys l) = pickP xs ys l := tl_rthrN _ _ _
/-- A polynomial that enough values agree with is the one through some choice of them. -/
theorem pick_found {xs ys p : List UInt8} {d : Nat} (hu : unlike xs) (hp : deg1 p ≤ d + 1) (ha : d + 1 ≤ agN p xs ys xs.length) : ∃ l ∈ pk (d + 1) xs.length, pickP xs ys l = tl p := by
  rw [agN_cnt] at ha
  obtain ⟨z, h1, h2⟩ := cntP_pick (fun i => decide (hor (xs.getD i 0) p = ys.getD i 0)) xs.length
  refine ⟨(List.range (d + 1)).map z, pk_all _ _ z (fun i hi => (h1 i (by omega)).1) (fun i j hij hj => h2 i j hij (by omega)), ?_⟩
  have hl : (List.range (d + 1)).map z ∈ pk (d + 1) xs.length := pk_all _ _ z (fun i hi => (h1 i (by omega)).1) (fun i j hij hj => h2 i j hij (by omega))
  have hlen : ((List.range (d + 1)).map z).length = d + 1 := by simp
  have hgz : ∀ i, i < d + 1 → ((List.range (d + 1)).map z).getD i 0 = z i := fun i hi => by simp [List.getD_eq_getElem?_getD, List.getElem?_range, hi]
  have hb := rthrN_back (p := p) (ys := pick ys ((List.range (d + 1)).map z)) (pick_unlike hu (Nat.le_refl _) hl) (by rw [pick_length, hlen]; exact hp) fun i hi => by
    rw [pick_length, hlen] at hi
    rw [getD_pick (by rw [hlen]; exact hi), getD_pick (by rw [hlen]; exact hi), hgz i hi]
    exact (of_decide_eq_true (h1 i (by omega)).2).symm
  rw [pick_length] at hb
  exact hb
end Go.Gf
