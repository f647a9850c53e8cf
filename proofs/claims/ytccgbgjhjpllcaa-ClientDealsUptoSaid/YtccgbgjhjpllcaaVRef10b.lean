/-
  The document's answers of layer 10, walked: polynomials and shares of a document.
-/
import Derived.Test.YtccgbgjhjpllcaaVRef10
import Derived.Test.YtccgbgjhjpllcaaVcMem
set_option linter.unusedVariables false
set_option linter.unusedSimpArgs false
namespace Go.Proofs.Ytccgbgjhjpllcaa
open Go Go.Vc Go.Gf

/-! ### Two shares together -/
def xorTo (a b : List UInt8) (i : Nat) : List UInt8 := mk a.length fun j => if j < i then a.getD j 0 ^^^ b.getD j 0 else a.getD j 0
def xorS (a b : List UInt8) : List UInt8 := mk a.length fun j => a.getD j 0 ^^^ b.getD j 0
theorem xorTo_length (a b : List UInt8) (i : Nat) : (xorTo a b i).length = a.length := mk_length _ _
theorem xorS_length (a b : List UInt8) : (xorS a b).length = a.length := mk_length _ _
theorem xorTo_zero (a b : List UInt8) : xorTo a b 0 = a := ext0 (xorTo_length _ _ _) fun k hk => by
  rw [xorTo_length] at hk
  rw [xorTo, mk_getD, if_pos hk, if_neg (by omega)]
theorem xorTo_succ {a b : List UInt8} {i : Nat} (hi : i < a.length) : (xorTo a b i).set i ((xorTo a b i).getD i 0 ^^^ b.getD i 0) = xorTo a b (i + 1) := ext0 (by rw [List.length_set, xorTo_length, xorTo_length]) fun k hk => by
  rw [List.length_set, xorTo_length] at hk
  rw [getD_setL (by rw [xorTo_length]; exact hi)]
  simp only [xorTo, mk_getD, if_pos hk, if_pos hi]
  by_cases e : k = i
  · subst e; simp
  · have : (k < i + 1) ↔ k < i := by omega
    simp [e, this]
theorem xorTo_end {a b : List UInt8} {i : Nat} (h : a.length ≤ i ∨ b.length ≤ i) : xorTo a b i = xorS a b := ext0 (by rw [xorTo_length, xorS_length]) fun k hk => by
  rw [xorTo_length] at hk
  rw [xorTo, xorS, mk_getD, mk_getD, if_pos hk, if_pos hk]
  by_cases h' : k < i
  · rw [if_pos h']
  · rw [if_neg h', getD_ge (l := b) (by omega), xor_zero]
theorem xor_ok (s r : Sl) (a b : List UInt8) (H : Heap) (hs : Bytes H s a) (hr : Bytes H r b) (hl : a.length ≤ 140737488355328) : CallsH Try.prog 30 [s.val, r.val] H (New H (xorS a b)) := by
  refine CallsH.enter h30 Try.func30 rfl rfl rfl (by decide) fun u => go ?_
  refine RegS.buildSlice fun H1 o1 e1 z1 => ?_
  have hs1 := hs.ext e1
  refine go ?_
  refine RegS.append (l' := []) (f := B8) o1 hs1 (fun _ => rfl) ?_ ?_ ?_ ?_
  · omega
  · simp; omega
  · simp; omega
  intro t H2 o2 c2 b2
  have x2 : Ext H H2 := e1.then c2 fun b hb => (o1.blk_ge hb).1
  have m2 : Mine H2 H.size t (xorTo a b 0) := by rw [xorTo_zero]; exact OwnR.mine (e := 5) o2
  refine go ?_
  refine Wp.loop (ι := Nat) (fun i => [(0, s.val), (1, r.val), (5, t.val), (6, I64 i)]) (fun i A => i ≤ a.length ∧ Mine A H.size t (xorTo a b i) ∧ Ext H A) (fun i => a.length - i) 0 subs ⟨Nat.zero_le _, m2, x2⟩ ?_
  rintro i A ⟨hi, hM, eA⟩
  have hb := hM.bytes
  have hrA := hr.ext eA
  have hlen := xorTo_length a b i
  refine go ?_
  refine RegS.sp (fun h1 => ?_) (fun h1 => ?_)
  case refine_2 =>
    refine go ?_
    exact ret1 ⟨t, rfl, by rw [← xorTo_end (i := i) (.inl (by omega))]; exact hM, eA⟩
  refine go ?_
  refine Wp.br (fun h2 => ?_) (fun h2 => ?_)
  case refine_2 =>
    refine go ?_
    exact ret1 ⟨t, rfl, by rw [← xorTo_end (i := i) (.inr (by omega))]; exact hM, eA⟩
  refine go ?_
  refine RegP.store (hM.wr (j := i) (by omega)) ?_ ?_
  · exact Proms.nil
  refine go ?_
  obtain ⟨h3, h4⟩ := hM.set (j := i) (by omega) ((xorTo a b i).getD i 0 ^^^ b.getD i 0)
  refine roundQ_n (i + 1) subs ⟨by omega, ?_, eA.then h4 fun b hb => (hM.blk b hb).1⟩ (by omega)
  rw [← xorTo_succ (by omega)]
  exact h3

/-! ### A document's columns -/
theorem col_lt {n K c : Nat} (hK : 1 ≤ K) : c * K < n ↔ c < columns n K := by
  unfold columns
  rw [Nat.lt_div_iff_mul_lt (by omega)]
  omega
def colTo (data : List UInt8) (K c i : Nat) : List UInt8 := mk K fun j => if j < i then data.getD (c * K + j) 0 else 0
theorem colTo_length (data : List UInt8) (K c i : Nat) : (colTo data K c i).length = K := mk_length _ _
theorem colTo_succ {data : List UInt8} {K c i : Nat} (hi : i < K) : (colTo data K c i).set i (data.getD (c * K + i) 0) = colTo data K c (i + 1) := ext0 (by rw [List.length_set, colTo_length, colTo_length]) fun k hk => by
  rw [List.length_set, colTo_length] at hk
  rw [getD_setL (by rw [colTo_length]; exact hi), colTo, colTo, mk_getD, mk_getD, if_pos hk, if_pos hk]
  by_cases e : k = i
  · subst e; rw [if_pos rfl, if_pos (by omega)]
  · rw [if_neg e]
    by_cases h : k < i
    · rw [if_pos h, if_pos (by omega)]
    · rw [if_neg h, if_neg (by omega)]
theorem colTo_end {data : List UInt8} {K c i : Nat} (h : K ≤ i ∨ data.length ≤ c * K + i) : colTo data K c i = mk K fun j => data.getD (c * K + j) 0 := ext0 (by rw [colTo_length, mk_length]) fun k hk => by
  rw [colTo_length] at hk
  rw [colTo, mk_getD, mk_getD, if_pos hk, if_pos hk]
  by_cases h' : k < i
  · rw [if_pos h']
  · rw [if_neg h', getD_ge (l := data) (by omega)]
theorem colTo_zero (data : List UInt8) (K c : Nat) : colTo data K c 0 = List.replicate K 0 := ext0 (by rw [colTo_length, List.length_replicate]) fun k hk => by
  rw [colTo_length] at hk
  rw [colTo, mk_getD, if_pos hk, if_neg (by omega)]
  simp [List.getD_eq_getElem?_getD, hk]
set_option maxHeartbeats 1000000 in
theorem split_ok (s : Sl) (data : List UInt8) (K : Nat) (H : Heap) (hs : Bytes H s data) (hl : data.length ≤ 2097152) (hK : 1 ≤ K) (hK2 : K ≤ 255) :
    CallsH Try.prog 15 [s.val, I64 K] H fun v H' => ∃ (a : Sl) (ss : List Sl), v = a.val ∧ Mat H' H.size 24 a ss (splitL data K) ∧ Ext H H' := by
  have hcl := columns_le (size := data.length) hK
  refine CallsH.enter h15 Try.func15 rfl rfl rfl (by decide) fun u => go ?_
  refine Wp.loop (ι := Nat × Sl × List Sl) (fun i => [(0, s.val), (1, I64 K), (5, i.2.1.val), (6, I64 (i.1 * K))]) (fun i A => i.1 ≤ columns data.length K ∧ Mat A H.size 24 i.2.1 i.2.2 ((splitL data K).take i.1) ∧ Ext H A) (fun i => columns data.length K - i.1) (0, Sl.nil, []) ⟨rfl, rfl, rfl, get_int rfl (by simp), trivial⟩ ⟨Nat.zero_le _, Mat.nil _ _ _, Ext.refl _⟩ ?_
  rintro ⟨c, a, ss⟩ A ⟨hc, hM, eA⟩
  have hc : c ≤ columns data.length K := hc
  have hM : Mat A H.size 24 a ss ((splitL data K).take c) := hM
  have hsA := hs.ext eA
  have hml : ss.length = c := by have := hM.len; rw [List.length_take, splitL_length] at this; omega
  have zA := eA.size
  show Wp _ _ _ [(0, s.val), (1, I64 K), (5, a.val), (6, I64 (c * K))] _ _
  refine go ?_
  refine Wp.br (fun h => ?_) (fun h => ?_)
  case refine_2 =>
    have h : ¬ ((c * K : Nat) : Int) < (data.length : Int) := h
    have : c = columns data.length K := by
      have := (col_lt (n := data.length) (c := c) hK).2
      omega
    subst this
    rw [← splitL_length, List.take_length] at hM
    refine go ?_
    exact ret1 ⟨a, ss, rfl, hM, eA⟩
  have h : ((c * K : Nat) : Int) < (data.length : Int) := h
  have hcc : c < columns data.length K := (col_lt hK).1 (by omega)
  have hsk : (c + 1) * K = c * K + K := Nat.succ_mul c K
  refine go ?_
  refine RegS.makeSlice (n := K) ?_ ?_ fun A1 o1 e1 z1 => ?_
  · omega
  · omega
  have m1 : Mine A1 A.size (Sl.fresh A.size K) (colTo data K c 0) := by
    have : (List.replicate K (Value.int .u8 0)) = (colTo data K c 0).map B8 := by rw [colTo_zero]; simp [B8]
    rw [this] at o1
    exact OwnR.mine o1
  refine go ?_
  refine Wp.loop (ι := Nat) (fun i => [(0, s.val), (1, I64 K), (5, a.val), (6, I64 (c * K)), (7, (Sl.fresh A.size K).val), (8, I64 i)]) (fun i B => i ≤ K ∧ Mine B A.size (Sl.fresh A.size K) (colTo data K c i) ∧ Ext A B) (fun i => K - i) 0 subs ⟨Nat.zero_le _, m1, e1⟩ ?_
  rintro i B ⟨hi, hX, eB⟩
  have hb := hX.bytes
  have hsB := hsA.ext eB
  have hxl := colTo_length data K c i
  have zB := eB.size
  refine go ?_
  refine RegS.sp (fun h1 => ?_) (fun h1 => ?_)
  case' refine_1 =>
    refine go ?_
    refine Wp.br (fun h2 => ?_) (fun h2 => ?_)
    case' refine_1 =>
      have h2 : ((c * K + i : Nat) : Int) < (data.length : Int) := h2
      refine go ?_
      refine RegS.store (hX.wr (j := i) (by omega)) ?_
      refine go ?_
      obtain ⟨h3, h4⟩ := hX.set (j := i) (by omega) (data.getD (c * K + i) 0)
      refine roundQ_n (i + 1) subs ⟨by omega, ?_, eB.then h4 fun b hb => (hX.blk b hb).1⟩ (by omega)
      rw [← colTo_succ (by omega)]
      exact h3
    have hend : colTo data K c i = (splitL data K).getD c [] := by
      have h2 : ¬ ((c * K + i : Nat) : Int) < (data.length : Int) := h2
      rw [splitL_getD hcc, colTo_end (.inr (by omega))]
  case' refine_2 =>
    have hend : colTo data K c i = (splitL data K).getD c [] := by rw [splitL_getD hcc, colTo_end (.inl (by omega))]
  all_goals
    rw [hend] at hX
    refine go ?_
    refine RegS.buildSlice fun A3 o3 y3 w3 => ?_
    have r3 : RowF Sl.val Sl.nil A3 (Sl.fresh B.size 1) [Sl.fresh A.size K] := OwnR.rowF (f := Sl.val) (l := [Sl.fresh A.size K]) o3
    have x3 := eB.trans y3
    have hM3 := hM.ext x3
    have z3 := x3.size
    refine go ?_
    refine RegS.append (f := Sl.val) hM3.arr r3 (fun _ => rfl) (by omega) ?_ ?_ ?_
    · simp only [List.length_singleton]; omega
    · simp only [List.length_singleton]; omega
    intro t' A4 o4 c4 b4
    have hM4 := Mat.app (S := fun _ => False) hM3 ((hX.ext y3).low (by omega)) (fun j x hj hx hx' => by have := ((hM.each j hj).blk x hx).2; have := (hX.blk x hx').1; omega) (fun x hx hx' => by have := (hM.arr.blk_ge hx').2; have := (hX.blk x hx).1; omega) o4 c4 b4
    refine go ?_
    refine roundQ_n (c + 1, t', ss ++ [Sl.fresh A.size K]) ⟨rfl, rfl, rfl, get_int rfl (by simp only; omega), trivial⟩ ⟨by simp only; omega, ?_, (eA.trans x3).then c4 fun x hx => (hM3.arr.blk_ge hx).1⟩ (by simp only; omega)
    show Mat _ _ _ _ _ ((splitL data K).take (c + 1))
    rw [take_snoc [] (by rw [splitL_length]; omega)]
    exact hM4

/-! ### A document's polynomials -/
theorem each_ok (N T K E R : Nat) (H : Heap) : CallsH Try.prog 81 [pmV N T K E R, I64 1] H fun v H' => v = I64 T ∧ Ext H H' := by
  refine CallsH.enter h81 Try.func81 rfl rfl rfl (by decide) fun u => go ?_
  refine RegS.boxA fun H0 x0 z0 b0 => ?_
  refine go ?_
  exact ret1 ⟨rfl, x0⟩
def timesL (cols T : Nat) (fac rnd : List UInt8) : List (List UInt8) := (List.range cols).map fun c => tl (conv gmul fac ((rnd.drop (c * T)).take T))
theorem timesL_length (cols T : Nat) (fac rnd : List UInt8) : (timesL cols T fac rnd).length = cols := by simp [timesL]
theorem timesL_succ (c T : Nat) (fac rnd : List UInt8) : timesL (c + 1) T fac rnd = timesL c T fac rnd ++ [tl (conv gmul fac ((rnd.drop (c * T)).take T))] := by
  unfold timesL; rw [List.range_succ, List.map_append]; rfl
theorem timesL_getD {cols T : Nat} {fac rnd : List UInt8} {c : Nat} (hc : c < cols) : (timesL cols T fac rnd).getD c [] = tl (conv gmul fac ((rnd.drop (c * T)).take T)) := by simp [timesL, List.getD_eq_getElem?_getD, hc]
set_option maxHeartbeats 1000000 in
theorem rtimes_ok (N T K E R cols : Nat) (s r : Sl) (rnd fac : List UInt8) (H : Heap) (hs : Bytes H s rnd) (hr : Bytes H r fac) (hT : T ≤ 255) (hc : cols ≤ 100000) (hl : rnd.length = T * cols) (hf : fac.length ≤ 100000) :
    CallsH Try.prog 48 [pmV N T K E R, I64 1, I64 cols, s.val, r.val] H fun v H' => ∃ (a : Sl) (ss : List Sl), v = a.val ∧ Mat H' H.size 24 a ss (timesL cols T fac rnd) ∧ Ext H H' := by
  refine CallsH.enter h48 Try.func48 rfl rfl rfl (by decide) fun u => go ?_
  refine RegS.boxA fun H0 x0 z0 b0 => ?_
  refine go ?_
  refine RegS.call (each_ok N T K E R H0) ?_
  rintro _ H1 ⟨rfl, x1⟩
  have x01 := x0.trans x1
  have z01 := x01.size
  refine go ?_
  refine Wp.loop (ι := Nat × Sl × List Sl) (fun i => [(2, I64 cols), (3, s.val), (4, r.val), (11, i.2.1.val), (12, I64 T), (13, I64 i.1)]) (fun i A => i.1 ≤ cols ∧ Mat A H.size 24 i.2.1 i.2.2 (timesL i.1 T fac rnd) ∧ Ext H A) (fun i => cols - i.1) (0, Sl.nil, []) subs ⟨Nat.zero_le _, Mat.nil _ _ _, x01⟩ ?_
  rintro ⟨c, a, ss⟩ A ⟨hcc, hM, eA⟩
  have hcc : c ≤ cols := hcc
  have hM : Mat A H.size 24 a ss (timesL c T fac rnd) := hM
  have hsA := hs.ext eA
  have hrA := hr.ext eA
  have hml : ss.length = c := by have := hM.len; rw [timesL_length] at this; exact this
  have zA := eA.size
  show Wp _ _ _ [(2, I64 cols), (3, s.val), (4, r.val), (11, a.val), (12, I64 T), (13, I64 c)] _ _
  refine go ?_
  refine Wp.br (fun h => ?_) (fun h => ?_)
  case refine_2 =>
    have h : ¬ (c : Int) < (cols : Int) := h
    have : c = cols := by omega
    subst this
    refine go ?_
    exact ret1 ⟨a, ss, rfl, hM, eA⟩
  have h : (c : Int) < (cols : Int) := h
  have hm1 : (c + 1) * T ≤ cols * T := Nat.mul_le_mul_right T (by omega)
  have hm2 : (c + 1) * T = c * T + T := Nat.succ_mul c T
  have hm3 : cols * T ≤ 100000 * 255 := Nat.mul_le_mul hc hT
  have hm4 : T * cols = cols * T := Nat.mul_comm _ _
  have hmb : c * T ≤ 9223372036854775807 := by omega
  have hsl : s.len = rnd.length := hsA.len
  have hle := s.le
  refine go ?_
  have hh : c * T ≤ c * T + T ∧ c * T + T ≤ s.cap ∧ s.cap ≤ s.cap := by omega
  refine RegS.cut (c * T) (c * T + T) s.cap (.inr ⟨_, _, rfl, rfl⟩) (.inr ⟨_, _, rfl, rfl⟩) (.inl ⟨rfl, rfl⟩) hh ?_
  have hcut := hsA.cut hh (by omega)
  have hce : (rnd.take (c * T + T)).drop (c * T) = (rnd.drop (c * T)).take T := by rw [List.drop_take]; congr 1; omega
  rw [hce] at hcut
  refine go ?_
  refine RegS.call (times_ok r _ fac ((rnd.drop (c * T)).take T) A hrA hcut (by omega) (by simp only [List.length_take]; omega)) ?_
  rintro _ B ⟨t, rfl, mt, eB⟩
  have zB := eB.size
  refine go ?_
  refine RegS.buildSlice fun A3 o3 y3 w3 => ?_
  have r3 : RowF Sl.val Sl.nil A3 (Sl.fresh B.size 1) [t] := OwnR.rowF (f := Sl.val) (l := [t]) o3
  have x3 := eB.trans y3
  have hM3 := hM.ext x3
  have z3 := x3.size
  refine go ?_
  refine RegS.append (f := Sl.val) hM3.arr r3 (fun _ => rfl) (by omega) ?_ ?_ ?_
  · simp only [List.length_singleton]; omega
  · simp only [List.length_singleton]; omega
  intro t' A4 o4 c4 b4
  have hM4 := Mat.app (S := fun _ => False) hM3 ((mt.ext y3).low (by omega)) (fun j x hj hx hx' => by have := ((hM.each j hj).blk x hx).2; have := (mt.blk x hx').1; omega) (fun x hx hx' => by have := (hM.arr.blk_ge hx').2; have := (mt.blk x hx).1; omega) o4 c4 b4
  refine go ?_
  refine roundQ_n (c + 1, t', ss ++ [t]) subs ⟨by simp only; omega, ?_, (eA.trans x3).then c4 fun x hx => (hM3.arr.blk_ge hx).1⟩ (by simp only; omega)
  show Mat _ _ _ _ _ (timesL (c + 1) T fac rnd)
  rw [timesL_succ]
  exact hM4
/-- Some polynomials are made whole, the others not yet. -/
def polysTo (N T K : Nat) (data rnd : List UInt8) (c : Nat) : List (List UInt8) := (List.range (columns data.length K)).map fun j => if j < c then (polysL N T K data rnd).getD j [] else (timesL (columns data.length K) T (roots gmul (secP N K)) rnd).getD j []
theorem polysTo_length (N T K : Nat) (data rnd : List UInt8) (c : Nat) : (polysTo N T K data rnd c).length = columns data.length K := by simp [polysTo]
theorem polysTo_getD {N T K : Nat} {data rnd : List UInt8} {c j : Nat} (hj : j < columns data.length K) : (polysTo N T K data rnd c).getD j [] = if j < c then (polysL N T K data rnd).getD j [] else (timesL (columns data.length K) T (roots gmul (secP N K)) rnd).getD j [] := by simp [polysTo, List.getD_eq_getElem?_getD, hj]
theorem polysTo_zero (N T K : Nat) (data rnd : List UInt8) : polysTo N T K data rnd 0 = timesL (columns data.length K) T (roots gmul (secP N K)) rnd := ext_getD [] (by rw [polysTo_length, timesL_length]) fun j hj => by
  rw [polysTo_length] at hj
  rw [polysTo_getD hj, if_neg (by omega)]
theorem polysTo_end (N T K : Nat) (data rnd : List UInt8) : polysTo N T K data rnd (columns data.length K) = polysL N T K data rnd := ext_getD [] (by rw [polysTo_length, polysL_length]) fun j hj => by
  rw [polysTo_length] at hj
  rw [polysTo_getD hj, if_pos hj]
theorem polysTo_succ {N T K : Nat} {data rnd : List UInt8} {c : Nat} (hc : c < columns data.length K) : (polysTo N T K data rnd c).set c ((polysL N T K data rnd).getD c []) = polysTo N T K data rnd (c + 1) := ext_getD [] (by rw [List.length_set, polysTo_length, polysTo_length]) fun j hj => by
  rw [List.length_set, polysTo_length] at hj
  rw [getD_setL (by rw [polysTo_length]; exact hc), polysTo_getD hj, polysTo_getD hj]
  by_cases e : j = c
  · subst e; rw [if_pos rfl, if_pos (by omega)]
  · rw [if_neg e]
    by_cases h : j < c
    · rw [if_pos h, if_pos (by omega)]
    · rw [if_neg h, if_neg (by omega)]
set_option maxHeartbeats 4000000 in
theorem rpolys_ok (N T K E R : Nat) (s r : Sl) (data rnd : List UInt8) (H : Heap) (hs : Bytes H s data) (hr : Bytes H r rnd) (hd : data.length ≤ 256) (hK : 1 ≤ K) (hT : T ≤ 255) (hNK : N + K ≤ 255) (hl : rnd.length = T * columns data.length K) :
    CallsH Try.prog 21 [pmV N T K E R, s.val, r.val] H fun v H' => ∃ (a : Sl) (ss : List Sl), v = a.val ∧ Rws H' H.size 24 a ss (polysL N T K data rnd) ∧ Ext H H' := by
  have hcl := columns_le (size := data.length) hK
  refine CallsH.enter h21 Try.func21 rfl rfl rfl (by decide) fun u => go ?_
  refine RegS.boxA fun H0 x0 z0 b0 => ?_
  have hs0 := hs.ext x0
  have hr0 := hr.ext x0
  refine go ?_
  refine RegS.call (split_ok s data K H0 hs0 (by omega) hK (by omega)) ?_
  rintro _ H1 ⟨t7, ss7, rfl, M7, x1⟩
  have b1 := b0.ext x1
  have hr1 := hr0.ext x1
  have R7 := M7.row
  have l7 := M7.len
  rw [splitL_length] at l7
  have x01 := x0.trans x1
  refine go ?_
  refine RegP.call (rsecrets_ok N T K E R H1 (by omega) (by omega)) ?_
  rintro _ H2 ⟨t2, rfl, m2, x2⟩
  refine ⟨.inl x2, ?_⟩
  refine go ?_
  refine RegP.call (rroots_ok t2 (secP N K) H2 m2.bytes (by rw [secP_length]; omega)) ?_
  rintro _ H3 ⟨t3, rfl, m3, x3⟩
  refine ⟨.inl x3, ?_⟩
  have hrl := rootsN_length gmul (secP N K) (secP N K).length
  have hsl := secP_length N K
  refine go ?_
  refine RegP.call (rtimes_ok N T K E R ss7.length r t3 rnd (roots gmul (secP N K)) H3 ((hr1.ext x2).ext x3) m3.bytes hT (by omega) (by rw [l7]; exact hl) (by
    have := roots_length (secP N K)
    omega)) ?_
  rintro _ H4 ⟨t8, ss8, rfl, M8, x4⟩
  rw [l7] at M8
  refine ⟨.inl x4, ?_⟩
  have x14 := (x2.trans x3).trans x4
  have x04 := x01.trans x14
  have z04 := x04.size
  have z01 := x01.size
  have z13 := (x2.trans x3).size
  refine go ?_
  refine Wp.loop (ι := Nat × List Sl) (fun i => [(3, .pointer (some ⟨H.size, 0, none⟩)), (7, t7.val), (8, t8.val), (9, I64 i.1)]) (fun i A => i.1 ≤ columns data.length K ∧ Rws A H3.size 24 t8 i.2 (polysTo N T K data rnd i.1) ∧ Ext H1 A) (fun i => columns data.length K - i.1) (0, ss8) subs ⟨Nat.zero_le _, by rw [polysTo_zero]; exact M8.rws, x14⟩ ?_
  rintro ⟨c, ss⟩ A ⟨hc, hR, eA⟩
  have hc : c ≤ columns data.length K := hc
  have hR : Rws A H3.size 24 t8 ss (polysTo N T K data rnd c) := hR
  have bA := b1.ext eA
  have MA := M7.ext eA
  have r7 := MA.row
  have r8 := hR.brows.row
  have l8 := hR.li.len
  rw [polysTo_length] at l8
  have zA := eA.size
  show Wp _ _ _ [(3, .pointer (some ⟨H.size, 0, none⟩)), (7, t7.val), (8, t8.val), (9, I64 c)] _ _
  refine go ?_
  refine Wp.br (fun h => ?_) (fun h => ?_)
  case refine_2 =>
    have h : ¬ (c : Int) < (ss7.length : Int) := h
    have : c = columns data.length K := by omega
    subst this
    rw [polysTo_end] at hR
    refine go ?_
    exact ret1 ⟨t8, ss, rfl, hR.low (by omega), x01.trans eA⟩
  have h : (c : Int) < (ss7.length : Int) := h
  have hcc : c < columns data.length K := by omega
  have hb8 := hR.li.each c (by rw [polysTo_length]; exact hcc)
  rw [polysTo_getD hcc, if_neg (by omega), timesL_getD hcc] at hb8
  have hb7 := MA.bytes (k := c) (by rw [splitL_length]; exact hcc)
  have hsp : ((splitL data K).getD c []).length = K := by rw [splitL_getD hcc, mk_length]
  have hrol := roots_length (secP N K)
  have htl := tl_le (conv gmul (roots gmul (secP N K)) ((rnd.drop (c * T)).take T))
  rw [conv_length] at htl
  have htk : ((rnd.drop (c * T)).take T).length ≤ T := by rw [List.length_take]; omega
  refine go ?_
  refine RegP.call (rsecrets_ok N T K E R A (by omega) (by omega)) ?_
  rintro _ B1 ⟨u2, rfl, n2, y1⟩
  refine ⟨.inl y1, ?_⟩
  refine go ?_
  refine RegP.call (rthrough_ok u2 (ss7.getD c Sl.nil) (secP N K) ((splitL data K).getD c []) B1 n2.bytes (hb7.ext y1) (by omega) (by omega)) ?_
  rintro _ B2 ⟨u3, rfl, n3, y2⟩
  refine ⟨.inl y2, ?_⟩
  rw [secP_length] at n3
  have hthr := rthrN_len (xs := secP N K) (ys := (splitL data K).getD c []) K (by omega)
  refine go ?_
  refine RegP.call (radd_ok (ss.getD c Sl.nil) u3 _ _ B2 ((hb8.ext y1).ext y2) n3.bytes (by omega) (by omega)) ?_
  rintro _ B3 ⟨u4, rfl, n4, y3⟩
  refine ⟨.inl y3, ?_⟩
  have y12 := y1.trans y2
  have y13 := y12.trans y3
  have z12 := y12.size
  have hR3 := hR.ext y13
  refine go ?_
  refine RegP.store (hR3.wr (j := c) (by rw [polysTo_length]; exact hcc)) ?_ ?_
  · exact Proms.nil
  refine go ?_
  obtain ⟨p1, p2⟩ := hR3.put (i := c) (by rw [polysTo_length]; exact hcc) n4.bytes (fun b hb => ⟨(n4.blk b hb).2, fun hb' => by have := (n4.blk b hb).1; have := (hR.arr.blk_ge hb').2; omega⟩)
  refine roundQ_n (c + 1, ss.set c u4) subs ⟨by simp only; omega, ?_, (eA.trans y13).then p2 fun x hx => by have := (hR.arr.blk_ge hx).1; omega⟩ (by simp only; omega)
  show Rws _ _ _ _ _ (polysTo N T K data rnd (c + 1))
  rw [← polysTo_succ hcc, polysL_getD hcc]
  exact p1

/-! ### All holders' shares -/
def sharesTo (N : Nat) (qs : List (List UInt8)) (h : Nat) : List (List UInt8) := (List.range N).map fun j => if j < h then shareL qs j else []
def sharesL (N : Nat) (qs : List (List UInt8)) : List (List UInt8) := (List.range N).map fun j => shareL qs j
theorem sharesTo_length (N : Nat) (qs : List (List UInt8)) (h : Nat) : (sharesTo N qs h).length = N := by simp [sharesTo]
theorem sharesL_length (N : Nat) (qs : List (List UInt8)) : (sharesL N qs).length = N := by simp [sharesL]
theorem sharesTo_getD {N : Nat} {qs : List (List UInt8)} {h j : Nat} (hj : j < N) : (sharesTo N qs h).getD j [] = if j < h then shareL qs j else [] := by simp [sharesTo, List.getD_eq_getElem?_getD, hj]
theorem sharesL_getD {N : Nat} {qs : List (List UInt8)} {j : Nat} (hj : j < N) : (sharesL N qs).getD j [] = shareL qs j := by simp [sharesL, List.getD_eq_getElem?_getD, hj]
theorem sharesTo_end (N : Nat) (qs : List (List UInt8)) : sharesTo N qs N = sharesL N qs := ext_getD [] (by rw [sharesTo_length, sharesL_length]) fun j hj => by
  rw [sharesTo_length] at hj
  rw [sharesTo_getD hj, sharesL_getD hj, if_pos hj]
set_option maxHeartbeats 4000000 in
theorem rshares_ok (N T K E R : Nat) (s : Sl) (ss0 : List Sl) (qs : List (List UInt8)) (H : Heap) (hs : BRows H s ss0 qs) (hN : N ≤ 255) (hl : qs.length ≤ 1000) (hq : ∀ k, k < qs.length → (qs.getD k []).length ≤ 1000) :
    CallsH Try.prog 20 [pmV N T K E R, s.val] H fun v H' => ∃ (a : Sl) (ss : List Sl), v = a.val ∧ Rws H' H.size 24 a ss (sharesL N qs) ∧ Ext H H' := by
  refine CallsH.enter h20 Try.func20 rfl rfl rfl (by decide) fun u => go ?_
  refine RegS.boxA fun H0 x0 z0 b0 => ?_
  have hs0 := hs.ext x0
  refine go ?_
  refine RegS.makeSlice (n := N) ?_ ?_ fun H1 o1 e1 z1 => ?_
  · omega
  · omega
  have o1' : OwnF Sl.val H1 H0.size 24 (Sl.fresh H0.size N) (List.replicate N Sl.nil) := by
    rw [OwnF, List.map_replicate]; exact o1
  have b1 := b0.ext e1
  have hs1 := hs0.ext e1
  have x01 := x0.trans e1
  have zz0 := x0.size
  have hrep : ∀ j, (List.replicate N Sl.nil).getD j Sl.nil = Sl.nil := fun j => by
    simp only [List.getD_eq_getElem?_getD, List.getElem?_replicate]; split <;> rfl
  generalize Sl.fresh H0.size N = t at o1'
  have R1 : Rws H1 H0.size 24 t (List.replicate N Sl.nil) (sharesTo N qs 0) := by
    refine ⟨o1', ⟨by simp [sharesTo], fun k hk => ?_, fun k hk b hb => ?_⟩, fun k hk b hb => ?_⟩
    · rw [sharesTo_length] at hk
      rw [hrep, sharesTo_getD hk, if_neg (by omega)]; exact RowF.nil _
    · rw [hrep] at hb; simp [Sl.blk, Sl.nil] at hb
    · rw [hrep] at hb; simp [Sl.blk, Sl.nil] at hb
  refine go ?_
  refine Wp.loop (ι := Nat × List Sl) (fun i => [(1, s.val), (2, .pointer (some ⟨H.size, 0, none⟩)), (5, t.val), (6, I64 i.1)]) (fun i A => i.1 ≤ N ∧ Rws A H0.size 24 t i.2 (sharesTo N qs i.1) ∧ (∀ j, i.1 ≤ j → i.2.getD j Sl.nil = Sl.nil) ∧ Ext H0 A) (fun i => N - i.1) (0, List.replicate N Sl.nil) subs ⟨Nat.zero_le _, R1, fun j _ => hrep j, e1⟩ ?_
  rintro ⟨h, ss⟩ A ⟨hh, hR, hnil, eA⟩
  have hh : h ≤ N := hh
  have hR : Rws A H0.size 24 t ss (sharesTo N qs h) := hR
  have hnil : ∀ j, h ≤ j → ss.getD j Sl.nil = Sl.nil := hnil
  have bA := b0.ext eA
  have sA := hs0.ext eA
  have hsl := hR.li.len
  rw [sharesTo_length] at hsl
  have h0l := hs.len
  have zA := eA.size
  have zH := x01.size
  show Wp _ _ _ [(1, s.val), (2, .pointer (some ⟨H.size, 0, none⟩)), (5, t.val), (6, I64 h)] _ _
  refine go ?_
  refine Wp.br (fun hlt => ?_) (fun hlt => ?_)
  case refine_2 =>
    have hlt : ¬ (h : Int) < (N : Int) := hlt
    have : h = N := by omega
    subst this
    rw [sharesTo_end] at hR
    refine go ?_
    exact ret1 ⟨t, ss, rfl, hR.low (by omega), x0.trans eA⟩
  have hlt : (h : Int) < (N : Int) := hlt
  have htb : ∀ b, t.blk = some b → b < A.size := fun b hb => (hR.arr.blk_ge hb).2
  have hset0 : ss.set h Sl.nil = ss := by
    refine List.ext_getElem? fun i => ?_
    rw [List.getElem?_set]
    split
    · rename_i e
      subst e
      have := hnil h (Nat.le_refl _)
      rw [if_pos (by omega)]
      have hx : ss[h]? = some (ss.getD h Sl.nil) := by rw [List.getElem?_eq_getElem (by omega)]; simp [List.getD_eq_getElem?_getD, show h < ss.length by omega]
      rw [hx, this]
    · rfl
  refine go ?_
  refine Wp.loop (ι := Nat × Sl) (fun i => [(1, s.val), (2, .pointer (some ⟨H.size, 0, none⟩)), (5, t.val), (6, I64 h), (7, I64 i.1)]) (fun i B => i.1 ≤ qs.length ∧ OwnF Sl.val B H0.size 24 t (ss.set h i.2) ∧ OwnF B8 B A.size 5 i.2 (shareL (qs.take i.1) h) ∧ Chg (fun b => t.blk = some b) A B) (fun i => qs.length - i.1) (0, Sl.nil) subs ⟨Nat.zero_le _, by rw [hset0]; exact hR.arr, OwnR.nil _ _ _ _, Chg.refl _ _⟩ ?_
  rintro ⟨c, a⟩ B ⟨hc, hT', hO, cB⟩
  have hc : c ≤ qs.length := hc
  have hT' : OwnF Sl.val B H0.size 24 t (ss.set h a) := hT'
  have hO : OwnF B8 B A.size 5 a (shareL (qs.take c) h) := hO
  have eB : Ext H0 B := eA.then cB fun x hx => (hR.arr.blk_ge hx).1
  have bB := b0.ext eB
  have sB := hs0.ext eB
  have rowB := sB.row
  have rT := OwnR.rowF (f := Sl.val) (dd := Sl.nil) hT'
  have hg : (ss.set h a).getD h Sl.nil = a := by rw [getD_setL (by omega), if_pos rfl]
  have hgl : (ss.set h a).length = N := by rw [List.length_set]; omega
  have zB := cB.size
  have hpl : (shareL (qs.take c) h).length = c := by rw [shareL_length, List.length_take]; omega
  show Wp _ _ _ [(1, s.val), (2, .pointer (some ⟨H.size, 0, none⟩)), (5, t.val), (6, I64 h), (7, I64 c)] _ _
  refine go ?_
  refine Wp.br (fun hc' => ?_) (fun hc' => ?_)
  case refine_2 =>
    have hc' : ¬ (c : Int) < (ss0.length : Int) := hc'
    have : c = qs.length := by omega
    subst this
    rw [List.take_length] at hO
    refine go ?_
    refine roundQ_n (h + 1, ss.set h a) subs ⟨by simp only; omega, ⟨hT', ⟨by rw [hgl, sharesTo_length], fun k hk => ?_, fun k hk b => ?_⟩, fun k hk b => ?_⟩, fun j hj => ?_, eB⟩ (by simp only; omega)
    · rw [sharesTo_length] at hk
      rw [getD_setL (by omega), sharesTo_getD hk]
      by_cases e : k = h
      · subst e; rw [if_pos rfl, if_pos (by omega)]; exact (OwnR.mine hO).bytes
      · have h3 := (hR.li.each k (by rw [sharesTo_length]; exact hk)).chg cB fun b hb => ⟨hR.li.lt k (by rw [sharesTo_length]; exact hk) b hb, fun ht => hR.ap k (by rw [sharesTo_length]; exact hk) b hb ht⟩
        rw [sharesTo_getD hk] at h3
        rw [if_neg e]
        by_cases hkh : k < h
        · rw [if_pos hkh] at h3; rw [if_pos (by omega)]; exact h3
        · rw [if_neg hkh] at h3; rw [if_neg (by omega)]; exact h3
    · rw [sharesTo_length] at hk
      rw [getD_setL (by omega)]
      split
      · exact fun hb => (hO.blk_ge hb).2
      · exact fun hb => Nat.lt_of_lt_of_le (hR.li.lt k (by rw [sharesTo_length]; exact hk) b hb) cB.size
    · rw [sharesTo_length] at hk
      rw [getD_setL (by omega)]
      split
      · exact fun hb hb' => by have := (hO.blk_ge hb).1; have := htb b hb'; omega
      · exact hR.ap k (by rw [sharesTo_length]; exact hk) b
    · have hj : h + 1 ≤ j := hj
      show (ss.set h a).getD j Sl.nil = Sl.nil
      rw [getD_setL (by omega), if_neg (by omega)]
      exact hnil j (by omega)
  have hc' : (c : Int) < (ss0.length : Int) := hc'
  have hb := sB.each c (by omega)
  have hql := hq c (by omega)
  refine go ?_
  refine RegP.call (reval_ok _ (qs.getD c []) (UInt8.ofNat (h + 1)) B hb (by omega)) ?_
  rintro _ _ ⟨rfl, rfl⟩
  refine ⟨.inl (Ext.refl _), ?_⟩
  refine go ?_
  refine RegP.buildSlice fun B4 o4 y4 w4 => ?_
  have m4 : Mine B4 B.size (Sl.fresh B.size 1) [hor (UInt8.ofNat (h + 1)) (qs.getD c [])] := OwnR.mine (e := 5) o4
  have z4 := y4.size
  have hO4 : OwnF B8 B4 A.size 5 ((ss.set h a).getD h Sl.nil) (shareL (qs.take c) h) := by rw [hg]; exact hO.ext y4
  have hT4 := hT'.ext y4
  refine go ?_
  refine RegP.append (f := B8) hO4 m4.bytes (fun _ => rfl) (by omega) ?_ ?_ ?_
  · simp only [List.length_singleton]; omega
  · simp only [List.length_singleton]; omega
  intro a' B5 hO5 c5 b5
  rw [hg] at c5 b5
  have hT5 : OwnF Sl.val B5 H0.size 24 t (ss.set h a) := hT4.chg c5 fun b hb hb' => by have := (hO.blk_ge hb').1; have := htb b hb; omega
  have rT5 := OwnR.rowF (f := Sl.val) (dd := Sl.nil) hT5
  refine ⟨.inr ?_, ?_⟩
  · exact proms
  refine go ?_
  refine RegP.store (OwnF.wrd (d := Sl.nil) hT5 (j := h) (by omega)) ?_ ?_
  · exact Proms.nil
  refine go ?_
  obtain ⟨o6, c6⟩ := OwnR.set hT5 (j := h) (by simp; omega) a'.val
  have o6' : OwnF Sl.val (hset B5 (t.cell h) a'.val) H0.size 24 t (ss.set h a') := by
    rw [← List.map_set, List.set_set] at o6; exact o6
  refine roundQ_n (c + 1, a') subs ⟨by simp only; omega, o6', ?_, ?_⟩ (by simp only; omega)
  · show OwnF B8 _ _ _ _ (shareL (qs.take (c + 1)) h)
    rw [take_snoc [] (by omega), shareL, List.map_append]
    refine OwnR.chg hO5 c6 fun b hb hb' => ?_
    have := (hO5.blk_ge hb).1
    have := htb b hb'
    omega
  · refine Chg.trans ?_ c6
    refine ⟨Nat.le_trans cB.size (Nat.le_trans y4.size c5.size), fun b hb hs => ?_⟩
    rw [c5.get b (by omega) fun hx => by have := (hO.blk_ge hx).1; omega, y4.get b (by omega), cB.get b hb hs]
end Go.Proofs.Ytccgbgjhjpllcaa
