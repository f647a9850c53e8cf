/-
  The laws of layer 2, walked: each returns true.
-/
import Derived.Test.YthoabhcaliggoaaVLaw02
import Derived.Test.YthoabhcaliggoaaVInterp
set_option linter.unusedVariables false
set_option linter.unusedSimpArgs false
namespace Go.Proofs.Ythoabhcaliggoaa
open Go Go.Vc Go.Gf

/-- What each law's walk says. -/
def True' (H : Heap) (v : Value) (H' : Heap) : Prop := v = .bool true ∧ Ext H H'

theorem polyValues_ok (s : Sl) (l : List UInt8) (x : UInt8) (H : Heap) (hs : Bytes H s l) (hl : l.length ≤ 140737488355328) : CallsH Try.prog 7 [s.val, B8 x] H (True' H) := by
  have ht := tl_length l
  have hd := deg1_le l
  refine CallsH.enter h7 Try.func7 rfl rfl rfl (by decide) fun u => go ?_
  refine RegS.call (answers02_ok H) ?_
  rintro _ H1 ⟨rfl, e1⟩
  have hs1 := hs.ext e1
  refine go ?_
  refine RegS.call (degree_ok s l H1 hs1 (by omega)) ?_
  rintro _ _ ⟨rfl, rfl⟩
  refine go ?_
  refine RegS.call (rtrim_ok s l H1 hs1 hl) ?_
  rintro _ H2 ⟨t, rfl, mt, e2⟩
  have bt := mt.bytes
  have hs2 := hs1.ext e2
  refine go ?_
  refine RegS.call (new_ok H2) ?_
  rintro _ H3 ⟨fb, rfl, hF, e3⟩
  have hs3 := hs2.ext e3
  refine go ?_
  refine RegS.call (eval_ok fb s l x H3 hF hs3 (by omega)) ?_
  rintro _ H4 ⟨rfl, e4⟩
  have hs4 := hs3.ext e4
  refine go ?_
  refine RegS.call (reval_ok s l x H4 hs4 (by omega)) ?_
  rintro _ _ ⟨rfl, rfl⟩
  refine go ?_
  refine ret1 ⟨?_, ((e1.trans e2).trans e3).trans e4⟩
  rw [dec_pos rfl]

theorem two_rows (s r : Sl) (l m : List UInt8) {H H' : Heap} {b : Nat} (o : OwnR H' b 23 1 (Sl.fresh b 2) [s.val, r.val]) (e : Ext H H') (hs : Bytes H s l) (hr : Bytes H r m) :
    CallsH Try.prog 38 [(Sl.fresh b 2).val] H' fun v A => v = .bool (dec (l.length ≤ 200 ∧ m.length ≤ 200)) ∧ H' = A := by
  refine (short_ok (Sl.fresh b 2) [s, r] [l, m] H' (OwnR.rowF (f := Sl.val) (l := [s, r]) o) rfl ?_ (by simp)).mono ?_
  · intro k hk
    match k with
    | 0 => exact hs.ext e
    | 1 => exact hr.ext e
    | k + 2 => simp at hk; omega
  · rintro v A ⟨rfl, rfl⟩
    refine ⟨?_, rfl⟩
    congr 1
    refine dec_congr ⟨fun h => ⟨h 0 (by simp), h 1 (by simp)⟩, fun h k hk => ?_⟩
    match k with
    | 0 => exact h.1
    | 1 => exact h.2
    | k + 2 => simp at hk; omega

theorem polyAdds_ok (s r : Sl) (l m : List UInt8) (H : Heap) (hs : Bytes H s l) (hr : Bytes H r m) : CallsH Try.prog 8 [s.val, r.val] H (True' H) := by
  refine CallsH.enter h8 Try.func8 rfl rfl rfl (by decide) fun u => go ?_
  refine RegS.buildSlice fun H1 o1 e1 z1 => ?_
  refine go ?_
  refine RegS.call (two_rows s r l m o1 e1 hs hr) ?_
  rintro _ _ ⟨rfl, rfl⟩
  refine go ?_
  refine Wp.br (fun h => ?_) (fun h => ?_) <;> refine go ?_
  · refine RegS.call (answers02_ok H1) ?_
    rintro _ H2 ⟨rfl, e2⟩
    refine go ?_
    exact ret1 ⟨rfl, e1.trans e2⟩
  obtain ⟨hl, hm⟩ := Classical.not_not.1 h
  refine RegS.call (answers02_ok H1) ?_
  rintro _ H2 ⟨rfl, e2⟩
  have x2 := e1.trans e2
  refine go ?_
  refine RegS.call (add_ok s r l m H2 (hs.ext x2) (hr.ext x2) (by omega) (by omega)) ?_
  rintro _ H3 ⟨t3, rfl, m3, e3⟩
  have x3 := x2.trans e3
  refine go ?_
  refine RegS.call (radd_ok s r l m H3 (hs.ext x3) (hr.ext x3) (by omega) (by omega)) ?_
  rintro _ H4 ⟨t4, rfl, m4, e4⟩
  have x4 := x3.trans e4
  refine go ?_
  refine RegS.call (same_ok t3 t4 _ _ H4 (m3.ext e4).bytes m4.bytes) ?_
  rintro _ _ ⟨rfl, rfl⟩
  rw [dec_pos rfl]
  refine go ?_
  refine RegS.call (new_ok H4) ?_
  rintro _ H5 ⟨fb, rfl, hF, e5⟩
  have x5 := x4.trans e5
  refine go ?_
  refine RegS.call (mulP_ok fb s r l m H5 hF (hs.ext x5) (hr.ext x5) (by omega) (by omega)) ?_
  rintro _ H6 ⟨t6, rfl, m6, e6⟩
  have x6 := x5.trans e6
  refine go ?_
  refine RegS.call (times_ok s r l m H6 (hs.ext x6) (hr.ext x6) (by omega) (by omega)) ?_
  rintro _ H7 ⟨t7, rfl, m7, e7⟩
  have x7 := x6.trans e7
  refine go ?_
  refine RegS.call (same_ok t6 t7 _ _ H7 (m6.ext e7).bytes m7.bytes) ?_
  rintro _ _ ⟨rfl, rfl⟩
  refine go ?_
  refine ret1 ⟨?_, x7⟩
  rw [dec_pos rfl]

set_option maxHeartbeats 2000000 in
theorem polyDivs_ok (s r : Sl) (p d : List UInt8) (H : Heap) (hs : Bytes H s p) (hr : Bytes H r d) : CallsH Try.prog 9 [s.val, r.val] H (True' H) := by
  have hdl := tl_length d
  refine CallsH.enter h9 Try.func9 rfl rfl rfl (by decide) fun u => go ?_
  refine RegS.buildSlice fun H1 o1 e1 z1 => ?_
  refine go ?_
  refine RegS.call (two_rows s r p d o1 e1 hs hr) ?_
  rintro _ _ ⟨rfl, rfl⟩
  refine go ?_
  refine Wp.br (fun h => ?_) (fun h => ?_) <;> refine go ?_
  · refine RegS.call (answers02_ok H1) ?_
    rintro _ H2 ⟨rfl, e2⟩
    refine go ?_
    exact ret1 ⟨rfl, e1.trans e2⟩
  obtain ⟨hl, hm⟩ := Classical.not_not.1 h
  refine RegS.call (new_ok H1) ?_
  rintro _ H2 ⟨fb, rfl, hF, e2⟩
  have x2 := e1.trans e2
  refine go ?_
  refine RegS.call (divP_ok fb s r p d H2 hF (hs.ext x2) (hr.ext x2) (by omega) (by omega)) ?_
  rintro _ H3 ⟨e3, h3⟩
  have x3 := x2.trans e3
  by_cases h0 : deg1 d = 0
  · rw [if_pos h0] at h3
    subst h3
    refine go ?_
    refine RegS.call (rtrim_ok r d H3 (hr.ext x3) (by omega)) ?_
    rintro _ H4 ⟨t4, rfl, m4, e4⟩
    have b4 := m4.bytes
    have n4 := Bytes.nil H4
    refine go ?_
    refine RegS.call (answers02_ok H4) ?_
    rintro _ H5 ⟨rfl, e5⟩
    have n5 := Bytes.nil H5
    have hz : (([] : List UInt8).length : Int) = ((0 : Nat) : Int) := rfl
    refine go ?_
    refine ret1 ⟨?_, (x3.trans e4).trans e5⟩
    rw [dec_pos hz]
  rw [if_neg h0] at h3
  obtain ⟨q, t, rfl, mq, mt, _⟩ := h3
  have hdv := divL_ok (p := p) (show 0 < deg1 d by omega)
  have hrl := tl_length (divL p d).2
  have hql := tl_le (divL p d).1
  have htl := tl_le (divL p d).2
  have hpl := divL_length p d
  have hlt : (tl (divL p d).2).length < (tl d).length := by omega
  refine go ?_
  refine RegS.call (rtrim_ok r d H3 (hr.ext x3) (by omega)) ?_
  rintro _ H4 ⟨t4, rfl, m4, e4⟩
  have b4 := m4.bytes
  refine go ?_
  refine RegS.call (answers02_ok H4) ?_
  rintro _ H5 ⟨rfl, e5⟩
  have x5 := (x3.trans e4).trans e5
  have mt5 := (mt.ext e4).ext e5
  have bt5 := mt5.bytes
  refine go ?_
  refine RegS.call (rtrim_ok r d H5 (hr.ext x5) (by omega)) ?_
  rintro _ H6 ⟨t6, rfl, m6, e6⟩
  have b6 := m6.bytes
  have x6 := x5.trans e6
  have mq6 := ((mq.ext e4).ext e5).ext e6
  have mt6 := mt5.ext e6
  refine go ?_
  refine RegS.call (times_ok q r (tl (divL p d).1) d H6 mq6.bytes (hr.ext x6) (by omega) (by omega)) ?_
  rintro _ H7 ⟨t7, rfl, m7, e7⟩
  have x7 := x6.trans e7
  have hcl := tl_le (conv gmul (tl (divL p d).1) d)
  rw [conv_length] at hcl
  refine go ?_
  refine RegS.call (radd_ok t7 t (tl (conv gmul (tl (divL p d).1) d)) (tl (divL p d).2) H7 m7.bytes (mt6.ext e7).bytes (by omega) (by omega)) ?_
  rintro _ H8 ⟨t8, rfl, m8, e8⟩
  have x8 := x7.trans e8
  rw [div_back (by omega)] at m8
  refine go ?_
  refine RegS.call (rtrim_ok s p H8 (hs.ext x8) (by omega)) ?_
  rintro _ H9 ⟨t9, rfl, m9, e9⟩
  have x9 := x8.trans e9
  refine go ?_
  refine RegS.call (same_ok t8 t9 _ _ H9 (m8.ext e9).bytes m9.bytes) ?_
  rintro _ _ ⟨rfl, rfl⟩
  rw [dec_pos rfl]
  have mq9 := ((mq6.ext e7).ext e8).ext e9
  have mt9 := ((mt6.ext e7).ext e8).ext e9
  refine go ?_
  refine RegS.call (rtrim_ok q _ H9 mq9.bytes (by omega)) ?_
  rintro _ H10 ⟨t10, rfl, m10, e10⟩
  rw [tl_tl] at m10
  refine go ?_
  refine RegS.call (same_ok q t10 _ _ H10 (mq9.ext e10).bytes m10.bytes) ?_
  rintro _ _ ⟨rfl, rfl⟩
  rw [dec_pos rfl]
  have mt10 := mt9.ext e10
  refine go ?_
  refine RegS.call (rtrim_ok t _ H10 mt10.bytes (by omega)) ?_
  rintro _ H11 ⟨t11, rfl, m11, e11⟩
  rw [tl_tl] at m11
  refine go ?_
  refine RegS.call (same_ok t t11 _ _ H11 (mt10.ext e11).bytes m11.bytes) ?_
  rintro _ _ ⟨rfl, rfl⟩
  rw [dec_pos rfl]
  refine go ?_
  exact ret1 ⟨rfl, (x9.trans e10).trans e11⟩

set_option maxHeartbeats 2000000 in
theorem polyThrough_ok (s r : Sl) (xs ys : List UInt8) (H : Heap) (hs : Bytes H s xs) (hr : Bytes H r ys) : CallsH Try.prog 10 [s.val, r.val] H (True' H) := by
  refine CallsH.enter h10 Try.func10 rfl rfl rfl (by decide) fun u => go ?_
  refine RegS.buildSlice fun H1 o1 e1 z1 => ?_
  refine go ?_
  refine RegS.call (two_rows s r xs ys o1 e1 hs hr) ?_
  rintro _ _ ⟨rfl, rfl⟩
  have hs1 := hs.ext e1
  have out : ∀ A : Heap, Ext H A → CallsH Try.prog 33 [] A (fun v H' => v = .bool true ∧ Ext A H' ∧ Ext H H') := fun A e => (answers02_ok A).mono fun v H' h => ⟨h.1, h.2, e.trans h.2⟩
  refine go ?_
  refine RegS.sp (fun h => ?_) (fun h => ?_) <;> refine go ?_
  · refine RegS.call (out H1 e1) ?_
    rintro _ H2 ⟨rfl, _, e2⟩
    refine go ?_
    exact ret1 ⟨rfl, e2⟩
  obtain ⟨hl, hm⟩ := Classical.not_not.1 h
  refine Wp.br (fun h' => ?_) (fun h' => ?_) <;> refine go ?_
  · refine RegS.call (out H1 e1) ?_
    rintro _ H2 ⟨rfl, _, e2⟩
    refine go ?_
    exact ret1 ⟨rfl, e2⟩
  refine RegS.call (new_ok H1) ?_
  rintro _ H2 ⟨fb, rfl, hF, e2⟩
  have x2 := e1.trans e2
  refine go ?_
  refine RegS.call (through_ok fb s r xs ys H2 hF (hs.ext x2) (hr.ext x2) (by omega) (by omega)) ?_
  rintro _ H3 ⟨e3, h3⟩
  have x3 := x2.trans e3
  have hrl := roots_length xs
  have hs3 := hs.ext x3
  have hr3 := hr.ext x3
  by_cases hc : xs.length = ys.length ∧ unlike xs
  · rw [if_pos ⟨hc.1, (thrOk_iff xs).2 hc.2⟩, thrN_eq xs ys _ (Nat.le_refl _)] at h3
    obtain ⟨t, rfl, mt⟩ := h3
    have htl := rthrN_len (xs := xs) (ys := ys) xs.length (Nat.le_refl _)
    refine go ?_
    refine RegS.call (roots_ok fb s xs H3 (hF.ext e3) hs3 (by omega)) ?_
    rintro _ H4 ⟨t4, rfl, m4, e4⟩
    have x4 := x3.trans e4
    refine go ?_
    refine RegS.call (rroots_ok s xs H4 (hs.ext x4) (by omega)) ?_
    rintro _ H5 ⟨t5, rfl, m5, e5⟩
    have x5 := x4.trans e5
    refine go ?_
    refine RegS.call (same_ok t4 t5 _ _ H5 (m4.ext e5).bytes m5.bytes) ?_
    rintro _ _ ⟨rfl, rfl⟩
    rw [dec_pos rfl]
    have hs5 := hs.ext x5
    have hr5 := hr.ext x5
    have hlen : (xs.length : Int) = (ys.length : Int) := by omega
    refine go ?_
    refine RegS.call (unlike_ok s xs H5 hs5 (by omega)) ?_
    rintro _ _ ⟨rfl, rfl⟩
    rw [dec_pos hc.2]
    refine go ?_
    refine Wp.br (fun h => absurd rfl h) (fun _ => ?_)
    refine go ?_
    have mt5 := (mt.ext e4).ext e5
    refine RegS.call (out H5 x5) ?_
    rintro _ H6 ⟨rfl, e56, e6⟩
    have mt6 := mt5.ext e56
    have b6 := mt6.bytes
    have hs6 := hs5.ext e56
    refine go ?_
    refine RegS.call (rthrough_ok s r xs ys H6 hs6 (hr5.ext e56) (by omega) (by omega)) ?_
    rintro _ H7 ⟨t7, rfl, m7, e7⟩
    have b7 := (mt6.ext e7).bytes
    have hs7 := hs6.ext e7
    refine go ?_
    refine RegS.call (same_ok t t7 _ _ H7 b7 m7.bytes) ?_
    rintro _ _ ⟨rfl, rfl⟩
    rw [dec_pos rfl]
    refine go ?_
    refine RegS.call (agrees_ok t s r (rthrN xs ys xs.length) xs ys H7 b7 hs7 ((hr5.ext e56).ext e7) (by omega) (by omega) (by omega)) ?_
    rintro _ _ ⟨rfl, rfl⟩
    rw [agN_all fun i hi => by rw [hor_rthrN hc.2 hi _ (Nat.le_refl _), if_pos hi]]
    refine go ?_
    refine ret1 ⟨?_, e6.trans e7⟩
    rw [dec_pos rfl]
  · rw [if_neg (fun k => hc ⟨k.1, (thrOk_iff xs).1 k.2⟩)] at h3
    subst h3
    refine go ?_
    refine RegS.call (roots_ok fb s xs H3 (hF.ext e3) hs3 (by omega)) ?_
    rintro _ H4 ⟨t4, rfl, m4, e4⟩
    have x4 := x3.trans e4
    refine go ?_
    refine RegS.call (rroots_ok s xs H4 (hs.ext x4) (by omega)) ?_
    rintro _ H5 ⟨t5, rfl, m5, e5⟩
    have x5 := x4.trans e5
    refine go ?_
    refine RegS.call (same_ok t4 t5 _ _ H5 (m4.ext e5).bytes m5.bytes) ?_
    rintro _ _ ⟨rfl, rfl⟩
    rw [dec_pos rfl]
    have hs5 := hs.ext x5
    have hr5 := hr.ext x5
    have tail : True := trivial
    by_cases hlen : xs.length = ys.length
    · have hlen' : (xs.length : Int) = (ys.length : Int) := by omega
      refine go ?_
      refine RegS.call (unlike_ok s xs H5 hs5 (by omega)) ?_
      rintro _ _ ⟨rfl, rfl⟩
      rw [dec_neg (fun k => hc ⟨hlen, k⟩)]
      refine go ?_
      refine Wp.br (fun h => absurd rfl h) (fun _ => ?_)
      refine go ?_
      refine RegS.call (out H5 x5) ?_
      rintro _ H6 ⟨rfl, _, e6⟩
      have n6 := Bytes.nil H6
      refine go ?_
      refine ret1 ⟨?_, e6⟩
      rw [dec_pos (show (([] : List UInt8).length : Int) = ((0 : Nat) : Int) from rfl)]
    · have hlen' : ¬ (xs.length : Int) = (ys.length : Int) := by omega
      refine go ?_
      refine Wp.br (fun h => absurd rfl h) (fun _ => ?_)
      refine go ?_
      refine RegS.call (out H5 x5) ?_
      rintro _ H6 ⟨rfl, _, e6⟩
      have n6 := Bytes.nil H6
      refine go ?_
      refine ret1 ⟨?_, e6⟩
      rw [dec_pos (show (([] : List UInt8).length : Int) = ((0 : Nat) : Int) from rfl)]

theorem three_rows (s r q : Sl) (l m n : List UInt8) {H H' : Heap} {b : Nat} (o : OwnR H' b 23 1 (Sl.fresh b 3) [s.val, r.val, q.val]) (e : Ext H H') (hs : Bytes H s l) (hr : Bytes H r m) (hq : Bytes H q n) :
    CallsH Try.prog 38 [(Sl.fresh b 3).val] H' fun v A => v = .bool (dec (l.length ≤ 200 ∧ m.length ≤ 200 ∧ n.length ≤ 200)) ∧ H' = A := by
  refine (short_ok (Sl.fresh b 3) [s, r, q] [l, m, n] H' (OwnR.rowF (f := Sl.val) (l := [s, r, q]) o) rfl ?_ (by simp)).mono ?_
  · intro k hk
    match k with
    | 0 => exact hs.ext e
    | 1 => exact hr.ext e
    | 2 => exact hq.ext e
    | k + 3 => simp at hk; omega
  · rintro v A ⟨rfl, rfl⟩
    refine ⟨?_, rfl⟩
    congr 1
    refine dec_congr ⟨fun h => ⟨h 0 (by simp), h 1 (by simp), h 2 (by simp)⟩, fun h k hk => ?_⟩
    match k with
    | 0 => exact h.1
    | 1 => exact h.2.1
    | 2 => exact h.2.2
    | k + 3 => simp at hk; omega

/-- Any place in a row of bytes. -/
theorem any_succ (x : UInt8) (xs : List UInt8) (i : Nat) : (∃ j, j < i + 1 ∧ xs.getD j 0 = x) ↔ ((∃ j, j < i ∧ xs.getD j 0 = x) ∨ xs.getD i 0 = x) := by
  constructor
  · rintro ⟨j, hj, h⟩
    by_cases e : j = i
    · subst e; exact .inr h
    · exact .inl ⟨j, by omega, h⟩
  · rintro (⟨j, hj, h⟩ | h)
    · exact ⟨j, by omega, h⟩
    · exact ⟨i, by omega, h⟩
theorem mem_getD (x : UInt8) (xs : List UInt8) : (∃ j, j < xs.length ∧ xs.getD j 0 = x) ↔ x ∈ xs := by
  constructor
  · rintro ⟨j, hj, rfl⟩
    rw [List.getD_eq_getElem?_getD, List.getElem?_eq_getElem hj]
    exact List.getElem_mem hj
  · intro h
    obtain ⟨j, hj, rfl⟩ := List.mem_iff_getElem.1 h
    exact ⟨j, hj, by rw [List.getD_eq_getElem?_getD, List.getElem?_eq_getElem hj]; rfl⟩

set_option maxHeartbeats 2000000 in
theorem polyRoots_ok (s r q : Sl) (xs l m : List UInt8) (x : UInt8) (H : Heap) (hs : Bytes H s xs) (hr : Bytes H r l) (hq : Bytes H q m) : CallsH Try.prog 12 [s.val, r.val, q.val, B8 x] H (True' H) := by
  refine CallsH.enter h12 Try.func12 rfl rfl rfl (by decide) fun u => go ?_
  refine RegS.buildSlice fun H1 o1 e1 z1 => ?_
  refine go ?_
  refine RegS.call (three_rows s r q xs l m o1 e1 hs hr hq) ?_
  rintro _ _ ⟨rfl, rfl⟩
  refine go ?_
  refine Wp.br (fun h => ?_) (fun h => ?_) <;> refine go ?_
  · refine RegS.call (answers02_ok H1) ?_
    rintro _ H2 ⟨rfl, e2⟩
    refine go ?_
    exact ret1 ⟨rfl, e1.trans e2⟩
  obtain ⟨hx, hl, hm⟩ := Classical.not_not.1 h
  refine RegS.call (new_ok H1) ?_
  rintro _ H2 ⟨fb, rfl, hF, e2⟩
  have x2 := e1.trans e2
  refine go ?_
  refine RegS.call (roots_ok fb s xs H2 hF (hs.ext x2) (by omega)) ?_
  rintro _ H3 ⟨t, rfl, mt, e3⟩
  have x3 := x2.trans e3
  have hs3 := hs.ext x3
  have hF3 := hF.ext e3
  refine go ?_
  refine Wp.loop (ι := Nat) (fun i => [(0, s.val), (1, r.val), (2, q.val), (3, B8 x), (9, fieldV fb), (10, t.val), (11, .bool (dec (∃ j, j < i ∧ xs.getD j 0 = x))), (12, I64 i)]) (fun i A => i ≤ xs.length ∧ H3 = A) (fun i => xs.length - i) 0 ⟨rfl, rfl, rfl, rfl, rfl, rfl, ?_, rfl, trivial⟩ ⟨by omega, rfl⟩ ?_
  · rw [dec_neg (p := ∃ j, j < 0 ∧ xs.getD j 0 = x) (by rintro ⟨j, hj, _⟩; omega)]; rfl
  rintro i _ ⟨hi, rfl⟩
  refine go ?_
  refine Wp.br (fun h' => ?_) (fun h' => ?_) <;> refine go ?_
  · refine RegS.sp (fun h2 => ?_) (fun h2 => ?_) <;> refine go ?_
    · refine roundQ_n (i + 1) ⟨rfl, rfl, rfl, rfl, rfl, rfl, ?_, rfl, trivial⟩ ⟨by omega, rfl⟩ (by omega)
      rw [dec_pos ((any_succ x xs i).2 (.inl h2))]; rfl
    · refine roundQ_n (i + 1) ⟨rfl, rfl, rfl, rfl, rfl, rfl, ?_, rfl, trivial⟩ ⟨by omega, rfl⟩ (by omega)
      have : dec (∃ j, j < i + 1 ∧ xs.getD j 0 = x) = dec (xs.getD i 0 = x) := dec_congr ((any_succ x xs i).trans ⟨fun k => k.resolve_left h2, .inr⟩)
      rw [this]; rfl
  have hin : i = xs.length := by omega
  subst hin
  have hmem : dec (∃ j, j < xs.length ∧ xs.getD j 0 = x) = dec (x ∈ xs) := dec_congr (mem_getD x xs)
  rw [hmem]
  refine RegS.call (eval_ok fb r l x H3 hF3 (hr.ext x3) (by omega)) ?_
  rintro _ H4 ⟨rfl, e4⟩
  have x4 := x3.trans e4
  refine go ?_
  refine RegS.call (eval_ok fb q m x H4 (hF3.ext e4) (hq.ext x4) (by omega)) ?_
  rintro _ H5 ⟨rfl, e5⟩
  have x5 := x4.trans e5
  refine go ?_
  refine RegS.call (answers02_ok H5) ?_
  rintro _ H6 ⟨rfl, e6⟩
  have x6 := x5.trans e6
  have e36 := (e4.trans e5).trans e6
  have mt6 := mt.ext e36
  have hs6 := hs.ext x6
  have hrl := roots_length xs
  have hrd := deg1_roots xs
  refine go ?_
  refine RegS.call (degree_ok t _ H6 mt6.bytes (by omega)) ?_
  rintro _ _ ⟨rfl, rfl⟩
  refine go ?_
  refine RegS.call (eval_ok fb t _ x H6 (hF3.ext e36) mt6.bytes (by omega)) ?_
  rintro _ H7 ⟨rfl, e7⟩
  have x7 := x6.trans e7
  have e37 := e36.trans e7
  have hroots : dec (hor x (roots gmul xs) = 0) = dec (x ∈ xs) := dec_congr (hor_roots x xs)
  refine go ?_
  refine RegS.call (add_ok r q l m H7 (hr.ext x7) (hq.ext x7) (by omega) (by omega)) ?_
  rintro _ H8 ⟨t8, rfl, m8, e8⟩
  have x8 := x7.trans e8
  have h8l := tl_le (xadd l m)
  rw [xadd_length] at h8l
  refine go ?_
  refine RegS.call (eval_ok fb t8 _ x H8 (hF3.ext (e37.trans e8)) m8.bytes (by omega)) ?_
  rintro _ H9 ⟨rfl, e9⟩
  have x9 := x8.trans e9
  have hsum : hor x (tl (xadd l m)) = hor x l ^^^ hor x m := by rw [hor_tl, hor_xadd]
  refine go ?_
  refine RegS.call (mulP_ok fb r q l m H9 (hF3.ext ((e37.trans e8).trans e9)) (hr.ext x9) (hq.ext x9) (by omega) (by omega)) ?_
  rintro _ H10 ⟨t10, rfl, m10, e10⟩
  have x10 := x9.trans e10
  have e310 := ((e37.trans e8).trans e9).trans e10
  have h10l := tl_le (conv gmul l m)
  rw [conv_length] at h10l
  refine go ?_
  refine RegS.call (eval_ok fb t10 _ x H10 (hF3.ext e310) m10.bytes (by omega)) ?_
  rintro _ H11 ⟨rfl, e11⟩
  have x11 := x10.trans e11
  refine go ?_
  refine RegS.call (mul_ok fb _ _ H11 (hF3.ext (e310.trans e11))) ?_
  rintro _ _ ⟨rfl, rfl⟩
  refine go ?_
  refine ret1 ⟨?_, x11⟩
  rw [hor_tl, hor_conv, dec_pos rfl]

theorem Mine.nil (H : Heap) (base : Nat) : Mine H base Sl.nil [] := OwnR.mine (e := 5) (OwnR.nil _ _ _ _)
set_option maxHeartbeats 2000000 in
theorem polyOwn_ok (s r : Sl) (l m : List UInt8) (H : Heap) (hs : Bytes H s l) (hr : Bytes H r m) : CallsH Try.prog 11 [s.val, r.val] H (True' H) := by
  refine CallsH.enter h11 Try.func11 rfl rfl rfl (by decide) fun u => go ?_
  refine RegS.buildSlice fun H1 o1 e1 z1 => ?_
  refine go ?_
  refine RegS.call (two_rows s r l m o1 e1 hs hr) ?_
  rintro _ _ ⟨rfl, rfl⟩
  refine go ?_
  refine Wp.br (fun h => ?_) (fun h => ?_) <;> refine go ?_
  · refine RegS.call (answers02_ok H1) ?_
    rintro _ H2 ⟨rfl, e2⟩
    refine go ?_
    exact ret1 ⟨rfl, e1.trans e2⟩
  obtain ⟨hl, hm⟩ := Classical.not_not.1 h
  refine RegS.call (new_ok H1) ?_
  rintro _ H2 ⟨fb, rfl, hF, e2⟩
  have x2 := e1.trans e2
  refine go ?_
  refine RegS.buildSlice fun H3 o3 e3 z3 => ?_
  refine go ?_
  refine RegS.append (l' := []) (f := B8) o3 (hs.ext (x2.trans e3)) (fun _ => rfl) ?_ ?_ ?_ ?_
  · omega
  · simp; omega
  · simp; omega
  intro sa H4 oa ca ba
  have e4 : Ext H2 H4 := e3.then ca fun b hb => (o3.blk_ge hb).1
  have x4 := x2.trans e4
  refine go ?_
  refine RegS.buildSlice fun H5 o5 e5 z5 => ?_
  refine go ?_
  refine RegS.append (l' := []) (f := B8) o5 (hr.ext (x4.trans e5)) (fun _ => rfl) ?_ ?_ ?_ ?_
  · omega
  · simp; omega
  · simp; omega
  intro sb H6 ob cb bb
  have e6 : Ext H4 H6 := e5.then cb fun b hb => (o5.blk_ge hb).1
  have x6 := x4.trans e6
  have ma : Mine H6 H2.size sa l := (OwnR.mine oa).ext e6
  have mb : Mine H6 H4.size sb m := OwnR.mine ob
  have hF6 := hF.ext (e4.trans e6)
  refine go ?_
  refine RegS.call (add_ok sa sb l m H6 ma.bytes mb.bytes (by omega) (by omega)) ?_
  rintro _ H7 ⟨s7, rfl, m7, e7⟩
  refine go ?_
  refine RegS.call (mulP_ok fb sa sb l m H7 (hF6.ext e7) (ma.ext e7).bytes (mb.ext e7).bytes (by omega) (by omega)) ?_
  rintro _ H8 ⟨s8, rfl, m8, e8⟩
  refine go ?_
  refine RegS.call (divP_ok fb sa sb l m H8 (hF6.ext (e7.trans e8)) (ma.ext (e7.trans e8)).bytes (mb.ext (e7.trans e8)).bytes (by omega) (by omega)) ?_
  rintro _ H9 ⟨e9, h9⟩
  obtain ⟨sq, sr, ok, lq, lr, rfl, mq, mr, hqr⟩ : ∃ (sq sr : Sl) (ok : Bool) (lq lr : List UInt8), _ = Value.tuple #[sq.val, sr.val, .bool ok] ∧ Mine H9 H8.size sq lq ∧ Mine H9 H8.size sr lr ∧ (∀ b, sq.blk = some b → sr.blk ≠ some b) := by
    by_cases h0 : deg1 m = 0
    · rw [if_pos h0] at h9
      exact ⟨Sl.nil, Sl.nil, false, [], [], h9, Mine.nil _ _, Mine.nil _ _, fun b hb => by simp [Sl.nil, Sl.blk] at hb⟩
    · rw [if_neg h0] at h9
      obtain ⟨sq, sr, h1, h2, h3, h4⟩ := h9
      exact ⟨sq, sr, true, _, _, h1, h2, h3, h4⟩
  have e79 := (e7.trans e8).trans e9
  have ma9 := ma.ext e79
  have mb9 := mb.ext e79
  have m79 := (m7.ext e8).ext e9
  have m89 := m8.ext e9
  have na : ∀ b, sa.blk = some b → b < H6.size := fun b hb => (ma.blk b hb).2
  have nb : ∀ b, sb.blk = some b → b < H6.size := fun b hb => (mb.blk b hb).2
  have n7 : ∀ b, s7.blk = some b → H6.size ≤ b ∧ b < H7.size := fun b hb => m7.blk b hb
  have n8 : ∀ b, s8.blk = some b → H7.size ≤ b ∧ b < H8.size := fun b hb => m8.blk b hb
  have nq : ∀ b, sq.blk = some b → H8.size ≤ b := fun b hb => (mq.blk b hb).1
  have nr : ∀ b, sr.blk = some b → H8.size ≤ b := fun b hb => (mr.blk b hb).1
  have z67 := e7.size
  have z78 := e8.size
  have z06 := x6.size
  refine go ?_
  refine RegS.call (spoil_ok s7 _ _ H9 m79) ?_
  rintro _ A1 c1
  refine go ?_
  refine RegS.call (spoil_ok s8 _ _ A1 (m89.chg c1 fun b hb hb' => by have := n7 b hb'; have := n8 b hb; omega)) ?_
  rintro _ A2 c2
  refine go ?_
  refine RegS.call (spoil_ok sq _ _ A2 ((mq.chg c1 fun b hb hb' => by have := n7 b hb'; have := nq b hb; omega).chg c2 fun b hb hb' => by have := n8 b hb'; have := nq b hb; omega)) ?_
  rintro _ A3 c3
  refine go ?_
  refine RegS.call (spoil_ok sr _ _ A3 (((mr.chg c1 fun b hb hb' => by have := n7 b hb'; have := nr b hb; omega).chg c2 fun b hb hb' => by have := n8 b hb'; have := nr b hb; omega).chg c3 fun b hb hb' => hqr b hb' hb)) ?_
  rintro _ A4 c4
  have c14 : Chg (fun b => H6.size ≤ b) H9 A4 := (((c1.mono fun b _ hb => (n7 b hb).1).trans (c2.mono fun b _ hb => by have := n8 b hb; omega)).trans (c3.mono fun b _ hb => by have := nq b hb; omega)).trans (c4.mono fun b _ hb => by have := nr b hb; omega)
  have xA : Ext H A4 := (x6.trans e79).then c14 fun b hb => by omega
  have maA : Mine A4 H2.size sa l := ma9.chg c14 fun b hb hb' => by have := na b hb; omega
  have mbA : Mine A4 H4.size sb m := mb9.chg c14 fun b hb hb' => by have := nb b hb; omega
  refine go ?_
  refine RegS.call (answers02_ok A4) ?_
  rintro _ A5 ⟨rfl, e5⟩
  refine go ?_
  refine RegS.call (same_ok sa s l l A5 (maA.ext e5).bytes (hs.ext (xA.trans e5))) ?_
  rintro _ _ ⟨rfl, rfl⟩
  rw [dec_pos rfl]
  refine go ?_
  refine RegS.call (same_ok sb r m m A5 (mbA.ext e5).bytes (hr.ext (xA.trans e5))) ?_
  rintro _ _ ⟨rfl, rfl⟩
  rw [dec_pos rfl]
  refine go ?_
  exact ret1 ⟨rfl, xA.trans e5⟩
end Go.Proofs.Ythoabhcaliggoaa
