/-
  The document's answers of layer 10, walked: polynomials and shares of a document.
-/
import Derived.Test.YtgmemfcfjlndoaaGreatVRef10
import Derived.Test.YtgmemfcfjlndoaaGreatVcMem
set_option linter.unusedVariables false
set_option linter.unusedSimpArgs false
namespace Go.Proofs.YtgmemfcfjlndoaaGreat
open Go Go.Vc Go.Gf

/-! ### Two shares together -/
def xorTo (a b : List UInt8) (i : Nat) : List UInt8 := mk a.length fun j => if j < i then a.getD j 0 ^^^ b.getD j 0 else a.getD j 0
def xorS (a b : List UInt8) : List UInt8 := mk a.length fun j => a.getD j 0 ^^^ b.getD j 0
theorem xorTo_length (a b : List UInt8) (i : Nat) : (xorTo a b i).length = a.length := mk_length _ _
theorem xorS_length (a b : List UInt8) : (xorS a b).length = a.length := mk_length _ _
theorem xorTo_zero (a b : List UInt8) : xorTo a b 0 = a := ext0 (xorTo_length _ _ _) fun k hk => by
  rw [xorTo_length] at hk
  rw [xorTo, mk_getD, if_pos hk, if_neg (by omega)]
theorem xorTo_succ {a b : List UInt8} {i : Nat} (hi : i < a.length) : (xorTo a b i).set i ((xorTo a b i).getD i 0 ^^^ b.getD i 0) = xorTo a b (i + 1) := ext0 (by rw [List.length_set, xorTo_length, xorTo_length]) fun k hk => by
  rw [List.length_set, xorTo_length] at hk
  rw [getD_setL (by rw [xorTo_length]; exact hi)]
  simp only [xorTo, mk_getD, if_pos hk, if_pos hi]
  by_cases e : k = i
  · subst e; simp
  · have : (k < i + 1) ↔ k < i := by omega
    simp [e, this]
theorem xorTo_end {a b : List UInt8} {i : Nat} (h : a.length ≤ i ∨ b.length ≤ i) : xorTo a b i = xorS a b := ext0 (by rw [xorTo_length, xorS_length]) fun k hk => by
  rw [xorTo_length] at hk
  rw [xorTo, xorS, mk_getD, mk_getD, if_pos hk, if_pos hk]
  by_cases h' : k < i
  · rw [if_pos h']
  · rw [if_neg h', getD_ge (l := b) (by omega), xor_zero]
/-! ### A document's columns -/
theorem col_lt {n K c : Nat} (hK : 1 ≤ K) : c * K < n ↔ c < columns n K := by
  unfold columns
  rw [Nat.lt_div_iff_mul_lt (by omega)]
  omega
def colTo (data : List UInt8) (K c i : Nat) : List UInt8 := mk K fun j => if j < i then data.getD (c * K + j) 0 else 0
theorem colTo_length (data : List UInt8) (K c i : Nat) : (colTo data K c i).length = K := mk_length _ _
theorem colTo_succ {data : List UInt8} {K c i : Nat} (hi : i < K) : (colTo data K c i).set i (data.getD (c * K + i) 0) = colTo data K c (i + 1) := ext0 (by rw [List.length_set, colTo_length, colTo_length]) fun k hk => by
  rw [List.length_set, colTo_length] at hk
  rw [getD_setL (by rw [colTo_length]; exact hi), colTo, colTo, mk_getD, mk_getD, if_pos hk, if_pos hk]
  by_cases e : k = i
  · subst e; rw [if_pos rfl, if_pos (by omega)]
  · rw [if_neg e]
    by_cases h : k < i
    · rw [if_pos h, if_pos (by omega)]
    · rw [if_neg h, if_neg (by omega)]
theorem colTo_end {data : List UInt8} {K c i : Nat} (h : K ≤ i ∨ data.length ≤ c * K + i) : colTo data K c i = mk K fun j => data.getD (c * K + j) 0 := ext0 (by rw [colTo_length, mk_length]) fun k hk => by
  rw [colTo_length] at hk
  rw [colTo, mk_getD, mk_getD, if_pos hk, if_pos hk]
  by_cases h' : k < i
  · rw [if_pos h']
  · rw [if_neg h', getD_ge (l := data) (by omega)]
theorem colTo_zero (data : List UInt8) (K c : Nat) : colTo data K c 0 = List.replicate K 0 := ext0 (by rw [colTo_length, List.length_replicate]) fun k hk => by
  rw [colTo_length] at hk
  rw [colTo, mk_getD, if_pos hk, if_neg (by omega)]
  simp [List.getD_eq_getElem?_getD, hk]
/-! ### A document's polynomials -/
def timesL (cols T : Nat) (fac rnd : List UInt8) : List (List UInt8) := (List.range cols).map fun c => tl (conv gmul fac ((rnd.drop (c * T)).take T))
theorem timesL_length (cols T : Nat) (fac rnd : List UInt8) : (timesL cols T fac rnd).length = cols := by simp [timesL]
theorem timesL_succ (c T : Nat) (fac rnd : List UInt8) : timesL (c + 1) T fac rnd = timesL c T fac rnd ++ [tl (conv gmul fac ((rnd.drop (c * T)).take T))] := by
  unfold timesL; rw [List.range_succ, List.map_append]; rfl
theorem timesL_getD {cols T : Nat} {fac rnd : List UInt8} {c : Nat} (hc : c < cols) : (timesL cols T fac rnd).getD c [] = tl (conv gmul fac ((rnd.drop (c * T)).take T)) := by simp [timesL, List.getD_eq_getElem?_getD, hc]
/-- Some polynomials are made whole, the others not yet. -/
def polysTo (N T K : Nat) (data rnd : List UInt8) (c : Nat) : List (List UInt8) := (List.range (columns data.length K)).map fun j => if j < c then (polysL N T K data rnd).getD j [] else (timesL (columns data.length K) T (roots gmul (secP N K)) rnd).getD j []
theorem polysTo_length (N T K : Nat) (data rnd : List UInt8) (c : Nat) : (polysTo N T K data rnd c).length = columns data.length K := by simp [polysTo]
theorem polysTo_getD {N T K : Nat} {data rnd : List UInt8} {c j : Nat} (hj : j < columns data.length K) : (polysTo N T K data rnd c).getD j [] = if j < c then (polysL N T K data rnd).getD j [] else (timesL (columns data.length K) T (roots gmul (secP N K)) rnd).getD j [] := by simp [polysTo, List.getD_eq_getElem?_getD, hj]
theorem polysTo_zero (N T K : Nat) (data rnd : List UInt8) : polysTo N T K data rnd 0 = timesL (columns data.length K) T (roots gmul (secP N K)) rnd := ext_getD [] (by rw [polysTo_length, timesL_length]) fun j hj => by
  rw [polysTo_length] at hj
  rw [polysTo_getD hj, if_neg (by omega)]
theorem polysTo_end (N T K : Nat) (data rnd : List UInt8) : polysTo N T K data rnd (columns data.length K) = polysL N T K data rnd := ext_getD [] (by rw [polysTo_length, polysL_length]) fun j hj => by
  rw [polysTo_length] at hj
  rw [polysTo_getD hj, if_pos hj]
theorem polysTo_succ {N T K : Nat} {data rnd : List UInt8} {c : Nat} (hc : c < columns data.length K) : (polysTo N T K data rnd c).set c ((polysL N T K data rnd).getD c []) = polysTo N T K data rnd (c + 1) := ext_getD [] (by rw [List.length_set, polysTo_length, polysTo_length]) fun j hj => by
  rw [List.length_set, polysTo_length] at hj
  rw [getD_setL (by rw [polysTo_length]; exact hc), polysTo_getD hj, polysTo_getD hj]
  by_cases e : j = c
  · subst e; rw [if_pos rfl, if_pos (by omega)]
  · rw [if_neg e]
    by_cases h : j < c
    · rw [if_pos h, if_pos (by omega)]
    · rw [if_neg h, if_neg (by omega)]
/-! ### All holders' shares -/
def sharesTo (N : Nat) (qs : List (List UInt8)) (h : Nat) : List (List UInt8) := (List.range N).map fun j => if j < h then shareL qs j else []
def sharesL (N : Nat) (qs : List (List UInt8)) : List (List UInt8) := (List.range N).map fun j => shareL qs j
theorem sharesTo_length (N : Nat) (qs : List (List UInt8)) (h : Nat) : (sharesTo N qs h).length = N := by simp [sharesTo]
theorem sharesL_length (N : Nat) (qs : List (List UInt8)) : (sharesL N qs).length = N := by simp [sharesL]
theorem sharesTo_getD {N : Nat} {qs : List (List UInt8)} {h j : Nat} (hj : j < N) : (sharesTo N qs h).getD j [] = if j < h then shareL qs j else [] := by simp [sharesTo, List.getD_eq_getElem?_getD, hj]
theorem sharesL_getD {N : Nat} {qs : List (List UInt8)} {j : Nat} (hj : j < N) : (sharesL N qs).getD j [] = shareL qs j := by simp [sharesL, List.getD_eq_getElem?_getD, hj]
theorem sharesTo_end (N : Nat) (qs : List (List UInt8)) : sharesTo N qs N = sharesL N qs := ext_getD [] (by rw [sharesTo_length, sharesL_length]) fun j hj => by
  rw [sharesTo_length] at hj
  rw [sharesTo_getD hj, sharesL_getD hj, if_pos hj]
end Go.Proofs.YtgmemfcfjlndoaaGreat
