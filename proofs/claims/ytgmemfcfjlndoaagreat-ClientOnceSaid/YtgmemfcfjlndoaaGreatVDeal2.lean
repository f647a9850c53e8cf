/-
  The walks of package deal, on: pieces of random bytes, all holders, shares of polynomials.
-/
import Derived.Test.YtgmemfcfjlndoaaGreatVDeal
set_option linter.unusedVariables false
set_option linter.unusedSimpArgs false
namespace Go.Vc
theorem Keep.chg {B : Nat} {S : Nat → Prop} {H A A' : Heap} (k : Keep B A A') (c : Chg S H A) (hB : H.size ≤ B) : Chg S H A' := by
  cases k with
  | ext e => exact c.trans (e.chg S)
  | put hl ho hn =>
    refine ⟨by simpa using c.size, fun b hb hs => ?_⟩
    rw [Array.getElem?_setIfInBounds_ne (by omega)]
    exact c.get b hb hs
theorem GMat.chg {S : Nat → Prop} {H H' : Heap} {base : Nat} {e : TypeId} {t : Sl} {ss : List Sl} {m : List (List UInt8)} (h : GMat H base e t ss m) (c : Chg S H H') (hs : ∀ b, base ≤ b → b < H.size → ¬ S b) : GMat H' base e t ss m :=
  ⟨h.arr.chg c fun b hb => hs b (h.arr.blk_ge hb).1 (h.arr.blk_ge hb).2, h.len, fun k hk => (h.each k hk).chg c fun b hb => hs b ((h.each k hk).blk_ge hb).1 ((h.each k hk).blk_ge hb).2, h.diff, h.apart⟩
/-- What is read lies apart from rows that grow. -/
def SepM (A : Heap) (t : Sl) (ss : List Sl) (x : Sl) : Prop := ∀ b, x.blk = some b → b < A.size ∧ t.blk ≠ some b ∧ ∀ k, (ss.getD k Sl.nil).blk ≠ some b
theorem SepM.grow {A A' : Heap} {t x s' : Sl} {ss : List Sl} {l : List UInt8} {i : Nat} (h : SepM A t ss x) (hx : Bytes A x l) (hi : i < ss.length) (c : Chg (fun b => (ss.getD i Sl.nil).blk = some b) A A') (hb : s'.blk = (ss.getD i Sl.nil).blk ∨ ∃ b, s'.blk = some b ∧ A.size ≤ b)
    (c2 : Chg (fun b => t.blk = some b) A' (hset A' (t.cell i) s'.val)) : SepM (hset A' (t.cell i) s'.val) t (ss.set i s') x ∧ Bytes (hset A' (t.cell i) s'.val) x l := by
  refine ⟨fun b hx' => ⟨?_, (h b hx').2.1, fun k => ?_⟩, ?_⟩
  · exact Nat.lt_of_lt_of_le (h b hx').1 (Nat.le_trans c.size c2.size)
  · by_cases hk : k = i
    · subst hk
      rw [getD_setL hi, if_pos rfl]
      exact new_ne hb ((h b hx').2.2 k) (h b hx').1
    · rw [getD_setL hi, if_neg hk]; exact (h b hx').2.2 k
  · refine RowF.chg (RowF.chg hx c fun b hb => ⟨(h b hb).1, (h b hb).2.2 i⟩) c2 fun b hb => ⟨Nat.lt_of_lt_of_le (h b hb).1 c.size, (h b hb).2.1⟩
theorem SepM.ext {A A' : Heap} {t x : Sl} {ss : List Sl} (h : SepM A t ss x) (e : Ext A A') : SepM A' t ss x := fun b hb => ⟨Nat.lt_of_lt_of_le (h b hb).1 e.size, (h b hb).2⟩
end Go.Vc
namespace Go.Proofs.YtgmemfcfjlndoaaGreat
open Go Go.Vc Go.Gf

theorem eachP_ok (N T K E R : Nat) (H : Heap) : CallsH Tryz.prog 168 [pmV N T K E R, I64 1] H fun v H' => v = I64 T ∧ Ext H H' := by
  refine CallsH.enter h168 Tryz.func168 rfl rfl rfl (by decide) fun u => go ?_
  refine RegS.boxA fun H0 x0 z0 b0 => ?_
  refine go ?_
  exact ret1 ⟨rfl, x0⟩
theorem need_ok (N T K E R cols : Nat) (H : Heap) (hm : T * cols ≤ 9223372036854775807) : CallsH Tryz.prog 111 [pmV N T K E R, I64 1, I64 cols] H fun v H' => v = I64 (T * cols) ∧ Ext H H' := by
  refine CallsH.enter h111 Tryz.func111 rfl rfl rfl (by decide) fun u => go ?_
  refine RegS.boxA fun H0 x0 z0 b0 => ?_
  refine go ?_
  refine RegS.call (eachP_ok N T K E R H0) ?_
  rintro _ H1 ⟨rfl, x1⟩
  refine go ?_
  exact ret1 ⟨rfl, x0.trans x1⟩
theorem all_ok (N T K E R : Nat) (H : Heap) (hN : N ≤ 255) : CallsH Tryz.prog 233 [pmV N T K E R] H fun v H' => ∃ a : Sl, v = a.val ∧ OwnF I64 H' H.size 3 a (List.range N) ∧ Ext H H' := by
  refine CallsH.enter h233 Tryz.func233 rfl rfl rfl (by decide) fun u => go ?_
  refine RegS.boxA fun H0 x0 z0 b0 => ?_
  refine go ?_
  refine RegS.makeRoom (n := N) ?_ ?_ fun H1 o1 e1 z1 => ?_
  · omega
  · omega
  have b1 := b0.ext e1
  refine go ?_
  refine Wp.loop (ι := Nat × Sl) (fun i => [(3, i.2.val), (9, I64 N), (10, I64 i.1)]) (fun i A => i.1 ≤ N ∧ OwnF I64 A H0.size 3 i.2 (List.range i.1) ∧ Ext H0 A) (fun i => N - i.1) (0, Sl.room H0.size N) subs ⟨Nat.zero_le _, o1, e1⟩ ?_
  rintro ⟨i, a⟩ A ⟨hi, hA, eA⟩
  have hi : i ≤ N := hi
  have hA : OwnF I64 A H0.size 3 a (List.range i) := hA
  have zA := eA.size
  show Wp _ _ _ [(3, a.val), (9, I64 N), (10, I64 i)] _ _
  refine go ?_
  refine Wp.br (fun h => ?_) (fun h => ?_)
  · have h : (i : Int) < (N : Int) := h
    refine go ?_
    refine RegS.buildSlice fun A4 o4 y4 w4 => ?_
    have r4 : RowF I64 0 A4 (Sl.fresh A.size 1) [i] := OwnR.rowF (f := I64) (l := [i]) o4
    have z4 := y4.size
    refine go ?_
    refine RegS.append (f := I64) (hA.ext y4) r4 (fun _ => rfl) (by omega) ?_ ?_ ?_
    · simp only [List.length_singleton, List.length_range]; omega
    · simp only [List.length_singleton, List.length_range]; omega
    intro a' A5 hA' ca ba
    refine go ?_
    refine roundQ_n (i + 1, a') subs ⟨by simp only; omega, ?_, (eA.trans y4).then ca fun x hx => (hA.blk_ge hx).1⟩ (by simp only; omega)
    show OwnF I64 _ _ _ _ (List.range (i + 1))
    rw [List.range_succ]; exact hA'
  · have h : ¬ (i : Int) < (N : Int) := h
    have : i = N := by omega
    subst this
    refine go ?_
    exact ret1 ⟨a, rfl, hA.low (by omega), x0.trans eA⟩
def pieceR (rnd : List UInt8) (T k : Nat) : List UInt8 := (rnd.drop (k * T)).take T
theorem pieces_ok (N T K E R cols : Nat) (s : Sl) (H : Heap) : CallsH Tryz.prog 171 [pmV N T K E R, I64 1, I64 cols, s.val] H fun v H' => ∃ a b c d, v = .func (.func 228) #[] #[.pointer (some ⟨a, 0, none⟩), .pointer (some ⟨b, 0, none⟩), .pointer (some ⟨c, 0, none⟩), .pointer (some ⟨d, 0, none⟩)] ∧ Blk H' a 23 (pmL N T K E R) ∧ Box H' b 3 (I64 1) ∧ Box H' c 3 (I64 cols) ∧ Box H' d 36 s.val ∧ Ext H H' ∧ H.size ≤ a ∧ H.size ≤ b ∧ H.size ≤ c ∧ H.size ≤ d := by
  refine CallsH.enter h171 Tryz.func171 rfl rfl rfl (by decide) fun u => go ?_
  refine RegS.boxA fun H0 x0 z0 b0 => ?_
  refine go ?_
  refine RegS.box (fun H1 e1 z1 b1 => ?_)
  refine go ?_
  refine RegS.box (fun H2 e2 z2 b2 => ?_)
  refine go ?_
  refine RegS.box (fun H3 e3 z3 b3 => ?_)
  have c1 : Box H1 H0.size 3 (I64 1) := ⟨b1⟩
  have c2 : Box H2 H1.size 3 (I64 cols) := ⟨b2⟩
  have c3 : Box H3 H2.size 36 s.val := ⟨b3⟩
  refine go ?_
  have := x0.size; have := e1.size; have := e2.size
  exact ret1 ⟨_, _, _, _, rfl, ((b0.ext e1).ext e2).ext e3, (c1.ext e2).ext e3, c2.ext e3, c3, ((x0.trans e1).trans e2).trans e3, Nat.le_refl _, by omega, by omega, by omega⟩
theorem pieces1_iter (N T K E R cols a b c d : Nat) (s : Sl) (rnd : List UInt8) (hT : T ≤ 255) (hc : cols ≤ 100000) (hl : rnd.length = T * cols) : IterW Tryz.prog 228 [.pointer (some ⟨a, 0, none⟩), .pointer (some ⟨b, 0, none⟩), .pointer (some ⟨c, 0, none⟩), .pointer (some ⟨d, 0, none⟩)] cols
    (fun k A vs => ∃ t : Sl, vs = [I64 k, t.val] ∧ Bytes A t (pieceR rnd T k)) (fun A => Blk A a 23 (pmL N T K E R) ∧ Box A b 3 (I64 1) ∧ Box A c 3 (I64 cols) ∧ Box A d 36 s.val ∧ Bytes A s rnd) := by
  intro y J Jx H hpre hext hextx hY h0
  obtain ⟨p1, p2, p3, p4, p5⟩ := hpre _ _ h0
  refine CallsH.enter h228 Tryz.func228 rfl rfl rfl (by decide) fun u => go ?_
  refine RegS.call (eachP_ok N T K E R H) ?_
  rintro _ H1 ⟨rfl, x1⟩
  have h1 := hext _ _ _ h0 x1
  obtain ⟨p1, p2, p3, p4, p5⟩ := hpre _ _ h1
  refine go ?_
  refine Wp.loop (ι := Nat) (fun k => [(0, .func (.yield y) #[] #[]), (4, .pointer (some ⟨d, 0, none⟩)), (6, I64 T), (11, I64 cols), (12, I64 k)]) (fun k A => k ≤ cols ∧ J k A) (fun k => cols - k) 0 subs ⟨Nat.zero_le _, h1⟩ ?_
  rintro k A ⟨hk, hJ⟩
  obtain ⟨p1, p2, p3, p4, p5⟩ := hpre _ _ hJ
  have hm1 : (k + 1) * T = k * T + T := Nat.succ_mul k T
  have hm3 : cols * T ≤ 100000 * 255 := Nat.mul_le_mul hc hT
  have hm4 : T * cols = cols * T := Nat.mul_comm _ _
  have hsl : s.len = rnd.length := p5.len
  have hle := s.le
  refine go ?_
  refine Wp.br (fun h => ?_) (fun h => ?_)
  case refine_2 =>
    have h : ¬ (k : Int) < (cols : Int) := h
    have : k = cols := by omega
    subst this
    refine go ?_
    exact ret0n (.inl hJ)
  have h : (k : Int) < (cols : Int) := h
  have hm2 : (k + 1) * T ≤ cols * T := Nat.mul_le_mul_right T (by omega)
  have hb1 : k * T ≤ 9223372036854775807 := by omega
  have hb2 : (k + 1) * T ≤ 9223372036854775807 := by omega
  refine go ?_
  have hh : k * T ≤ (k + 1) * T ∧ (k + 1) * T ≤ s.cap ∧ s.cap ≤ s.cap := by omega
  refine RegS.cut (k * T) ((k + 1) * T) s.cap (.inr ⟨_, _, rfl, rfl⟩) (.inr ⟨_, _, rfl, rfl⟩) (.inl ⟨rfl, rfl⟩) hh ?_
  have hcut := p5.cut hh (by omega)
  have hce : (rnd.take ((k + 1) * T)).drop (k * T) = pieceR rnd T k := by rw [List.drop_take, pieceR]; congr 1; omega
  rw [hce] at hcut
  refine go ?_
  refine RegS.yieldC (hY k A _ (by omega) hJ ⟨_, rfl, hcut⟩) ?_
  rintro v H2 (⟨rfl, hJ'⟩ | ⟨rfl, hJ'⟩) <;> refine go ?_
  · exact roundQ_n (k + 1) subs ⟨by omega, hJ'⟩ (by omega)
  · exact ret0 (.inr hJ')
/-- Rows of shares, a column more for the first holders. -/
def growTo (N : Nat) (qs : List (List UInt8)) (c h : Nat) : List (List UInt8) := (List.range N).map fun j => shareL (qs.take (if j < h then c + 1 else c)) j
theorem growTo_length (N : Nat) (qs : List (List UInt8)) (c h : Nat) : (growTo N qs c h).length = N := by simp [growTo]
theorem growTo_getD {N : Nat} {qs : List (List UInt8)} {c h j : Nat} (hj : j < N) : (growTo N qs c h).getD j [] = shareL (qs.take (if j < h then c + 1 else c)) j := by simp [growTo, List.getD_eq_getElem?_getD, hj]
theorem growTo_end (N : Nat) (qs : List (List UInt8)) (c : Nat) : growTo N qs c N = growTo N qs (c + 1) 0 := ext_getD [] (by rw [growTo_length, growTo_length]) fun j hj => by
  rw [growTo_length] at hj
  rw [growTo_getD hj, growTo_getD hj, if_pos hj, if_neg (by omega)]
theorem growTo_all (N : Nat) (qs : List (List UInt8)) : growTo N qs qs.length 0 = sharesL N qs := ext_getD [] (by rw [growTo_length, sharesL_length]) fun j hj => by
  rw [growTo_length] at hj
  rw [growTo_getD hj, sharesL_getD hj, if_neg (by omega), List.take_length]
theorem growTo_succ {N : Nat} {qs : List (List UInt8)} {c h : Nat} (hc : c < qs.length) (hh : h < N) : (growTo N qs c h).set h (shareL (qs.take c) h ++ [hor (UInt8.ofNat (h + 1)) (qs.getD c [])]) = growTo N qs c (h + 1) := ext_getD [] (by rw [List.length_set, growTo_length, growTo_length]) fun j hj => by
  rw [List.length_set, growTo_length] at hj
  rw [getD_setL (by rw [growTo_length]; exact hh), growTo_getD hj, growTo_getD hj]
  by_cases e : j = h
  · subst e
    rw [if_pos rfl, if_pos (by omega), take_snoc [] hc, shareL, shareL, List.map_append]; rfl
  · rw [if_neg e]
    by_cases h' : j < h
    · rw [if_pos h', if_pos (by omega)]
    · rw [if_neg h', if_neg (by omega)]
end Go.Proofs.YtgmemfcfjlndoaaGreat
