/-
  The laws of layer 11, walked: documents and shares.
-/
import Derived.Test.YtccgbgjhjpllcaaVLaw11b
set_option linter.unusedVariables false
set_option linter.unusedSimpArgs false
namespace Go.Proofs.Ytccgbgjhjpllcaa
open Go Go.Vc Go.Gf

theorem dff : dec (false ≠ false) = false := dec_neg (by simp)
theorem dtt : dec (true ≠ true) = false := dec_neg (by simp)
set_option maxHeartbeats 8000000 in
theorem openOpens_ok (N T K E R : Int) (s r : Sl) (rs : List Sl) (fl : List Int) (rows : List (List UInt8)) (size target : Int) (H : Heap) (hs : RowF IV 0 H s fl) (hr : BRows H r rs rows) (hl : fl.length * 8 ≤ 140737488351232) (hl2 : rows.length * 24 ≤ 140737488351232)
    (hsz : -9223372036854775808 ≤ size ∧ size ≤ 9223372036854775807) (htg : -9223372036854775808 ≤ target ∧ target ≤ 9223372036854775807) (hp : ∀ x ∈ [N, T, K, E, R], -9223372036854775808 ≤ x ∧ x ≤ 9223372036854775807) : CallsH Try.prog 8 [pmI N T K E R, IV size, IV target, s.val, r.val] H (Fine H) := by
  refine CallsH.enter h8 Try.func8 rfl rfl rfl (by decide) fun u => go ?_
  refine RegS.boxA fun H0 x0 z0 b0 => ?_
  refine go ?_
  refine RegS.call (good11_ok N T K E R s fl H0 (hs.ext x0)) ?_
  rintro _ H1 ⟨rfl, x1⟩
  have b1 := b0.ext x1
  have x01 := x0.trans x1
  have hs1 := hs.ext x01
  have hr1 := hr.ext x01
  by_cases hg : GoodP N T K E R ∧ fl.length ≤ 9 ∧ N ≤ 30
  case neg =>
    rw [dec_neg hg]
    refine go ?_
    refine RegS.call (out11 x01) ?_
    rintro _ H3 ⟨rfl, e3⟩
    refine go ?_
    exact ret1 ⟨rfl, e3⟩
  rw [dec_pos hg]
  obtain ⟨⟨g1, g2, g3, g4, g5, g6, g7⟩, g8, g9⟩ := hg
  have q0 := g1 0 (by omega)
  have q1 := g1 1 (by omega)
  have q2 := g1 2 (by omega)
  have q3 := g1 3 (by omega)
  simp only [List.getD_cons_zero, List.getD_cons_succ] at q0 q1 q2 q3
  obtain ⟨N, rfl⟩ := Int.eq_ofNat_of_zero_le q0.1
  obtain ⟨T, rfl⟩ := Int.eq_ofNat_of_zero_le q1.1
  obtain ⟨K, rfl⟩ := Int.eq_ofNat_of_zero_le q2.1
  obtain ⟨E, rfl⟩ := Int.eq_ofNat_of_zero_le q3.1
  obtain ⟨R, rfl⟩ := Int.eq_ofNat_of_zero_le (show 0 ≤ R by omega)
  clear g1 hp
  have h3K : 3 * K ≤ 9223372036854775807 := by omega
  refine go ?_
  by_cases hbad : size < 0 ∨ 256 < size
  case pos =>
    by_cases hgt : ((3 * K : Nat) : Int) < size
    · refine RegS.sp (fun h1 => ?_) (fun h1 => absurd hgt h1)
      refine go ?_
      refine RegS.call (new_ok H1) ?_
      rintro _ H2 ⟨fb, rfl, hF, x2⟩
      have b2 := b1.ext x2
      refine go ?_
      refine RegS.call (open_bad (fieldV fb) N T K E R size s r H2 hbad) ?_
      rintro _ H3 ⟨rfl, x3⟩
      refine go ?_
      refine RegS.call (out11 ((x01.trans x2).trans x3)) ?_
      rintro _ H4 ⟨rfl, x4⟩
      refine go ?_
      exact ret1 ⟨congrArg Value.bool (dec_pos rfl), x4⟩
    · refine RegS.sp (fun h1 => absurd h1 hgt) (fun h1 => ?_)
      refine go ?_
      refine RegS.call (new_ok H1) ?_
      rintro _ H2 ⟨fb, rfl, hF, x2⟩
      have b2 := b1.ext x2
      refine go ?_
      refine RegS.call (open_bad (fieldV fb) N T K E R size s r H2 hbad) ?_
      rintro _ H3 ⟨rfl, x3⟩
      refine go ?_
      refine RegS.call (out11 ((x01.trans x2).trans x3)) ?_
      rintro _ H4 ⟨rfl, x4⟩
      refine go ?_
      exact ret1 ⟨congrArg Value.bool (dec_pos rfl), x4⟩
  obtain ⟨size, rfl⟩ := Int.eq_ofNat_of_zero_le (show 0 ≤ size by omega)
  by_cases hgt : ((3 * K : Nat) : Int) < (size : Int)
  · refine RegS.sp (fun h1 => ?_) (fun h1 => absurd hgt h1)
    refine go ?_
    refine RegS.call (out11 x01) ?_
    rintro _ H3 ⟨rfl, e3⟩
    refine go ?_
    exact ret1 ⟨rfl, e3⟩
  refine RegS.sp (fun h1 => absurd h1 hgt) (fun h1 => ?_)
  have hcle := columns_le (size := size) (K := K) (by omega)
  refine go ?_
  refine RegS.call (new_ok H1) ?_
  rintro _ H2 ⟨fb, rfl, hF, x2⟩
  have b2 := b1.ext x2
  have hs2 := hs1.ext x2
  have hr2 := hr1.ext x2
  refine go ?_
  refine RegS.call (open_ok fb N T K E R size s r rs fl rows H2 hF hs2 hr2 (by omega) (by omega) (by omega) (by omega) (by omega) (by omega) (by omega) (by omega) (by omega) (by omega)) ?_
  rintro _ H3 ⟨x3, hv1⟩
  have b3 := b2.ext x3
  have hs3 := hs2.ext x3
  have hr3 := hr2.ext x3
  have hF3 := hF.ext x3
  have x03 := (x01.trans x2).trans x3
  have hat := openAt_ok fb N T K E R (columns size K : Nat) target s r rs fl rows H3 hF3 hs3 hr3 (by omega) (by omega) (by omega) (by omega) (by omega) (by omega) (by omega) (by omega) (by omega)
  have hrf := fun A (e : Ext H3 A) => rfind_ok N T K E R (columns size K : Nat) s r rs fl rows A (hs3.ext e) (hr3.ext e) g8 (by omega) (by omega) (by omega) (by omega) (by omega) (by omega) (by omega)
  have hz0 : ([] : List UInt8).length = 0 := rfl
  obtain ⟨hs', qs, a, w, f1, rfl, ma, ow⟩ | ⟨hno, rfl⟩ := hv1
  · have hql : qs.length = columns size K := by have := f1.2.2.2.len; simpa using this
    have hqn : ∀ c, c < qs.length → (qs.getD c []).length ≤ 1000 := fun c hc => by
      obtain ⟨_, _, _, _, _, _, _, h1, h2, _⟩ := f1.2.2.2.good c (by simp; omega)
      rw [← h1, tl_length]; omega
    have hol := offs_len N hs' rows qs
    refine go ?_
    refine RegS.call (rcolumns_ok size K H3 (by omega) (by omega) (by omega)) ?_
    rintro _ _ ⟨rfl, rfl⟩
    refine go ?_
    refine RegS.call hat ?_
    rintro _ H4 ⟨x4, ⟨hs2', qs2, at', f2, t1, t2, rfl, mat⟩ | ⟨hno, rfl⟩⟩
    · obtain ⟨e1, e2⟩ := f2.one f1
      subst e1; subst e2
      obtain ⟨tg, rfl⟩ := Int.eq_ofNat_of_zero_le t1
      rw [Int.toNat_natCast] at mat
      have b4 := b3.ext x4
      refine go ?_
      refine RegS.call (hrf H4 x4) ?_
      rintro _ H5 ⟨x5, ⟨hs3', qs3, a3, w3, ss3, f3, rfl, br3, rw3⟩ | ⟨hno, rfl⟩⟩
      case inr => exact absurd f1 (hno _ _)
      obtain ⟨e1, e2⟩ := f3.one f1
      subst e1; subst e2
      have b5 := b4.ext x5
      have mat5 := (mat.ext x5).bytes
      have d1 : dec (((0 : Nat) : Int) ≤ (tg : Int)) = true := dec_pos (by omega)
      have d2 : dec ((tg : Int) < (N : Int)) = true := dec_pos t2
      refine go ?_
      repeat (first | (rw [dtt]; refine go ?_) | (rw [d1]; refine go ?_) | (rw [d2]; refine go ?_))
      refine RegP.call (at_ok a3 ss3 _ tg H5 br3 (by omega) (by omega) hqn) ?_
      rintro _ H6 ⟨st, rfl, mst, x6⟩
      refine ⟨.inl x6, ?_⟩
      have mst6 := mst.bytes
      have b6 := b5.ext x6
      refine go ?_
      refine RegP.q' (h := Rd.neqS rfl rfl rfl) ?_
      have d3 : dec (shareL qs3 tg ≠ shareL qs3 tg) = false := dec_neg (by simp)
      rw [d3]
      refine go ?_
      have x36 := (x4.trans x5).trans x6
      refine RegP.call (out11 (Ext.refl H6)) ?_
      rintro _ H7 ⟨rfl, x7⟩
      refine ⟨.inl x7, ?_⟩
      have b7 := b6.ext x7
      have ma7 := (ma.ext (x36.trans x7)).bytes
      refine go ?_
      refine RegP.call (secret_ok N T K E R size a3 ss3 _ H7 ((br3.ext x6).ext x7) (by omega) (by omega) (by omega) (by omega) hqn) ?_
      rintro _ H8 ⟨sc, rfl, msc, x8⟩
      refine ⟨.inl x8, ?_⟩
      have msc8 := msc.bytes
      have d4 : dec (docL N K size qs3 = docL N K size qs3) = true := dec_pos rfl
      have ow8 := OwnR.rowF (f := I64) (dd := 0) (ow.ext ((x36.trans x7).trans x8))
      refine go ?_
      rw [d4]
      refine go ?_
      refine RegP.call (sameInts_ok w w3 _ _ H8 ow8 (((rw3.ext x6).ext x7).ext x8) (by omega)) ?_
      rintro _ _ ⟨rfl, rfl⟩
      refine ⟨.inl (Ext.refl _), ?_⟩
      rw [dec_pos rfl]
      refine go ?_
      exact ret1 ⟨rfl, x03.trans ((x36.trans x7).trans x8)⟩
    · have hbt := hno.resolve_left fun h => h _ _ f1
      have b4 := b3.ext x4
      refine go ?_
      refine RegS.call (hrf H4 x4) ?_
      rintro _ H5 ⟨x5, ⟨hs3', qs3, a3, w3, ss3, f3, rfl, br3, rw3⟩ | ⟨hno, rfl⟩⟩
      case inr => exact absurd f1 (hno _ _)
      obtain ⟨e1, e2⟩ := f3.one f1
      subst e1; subst e2
      have b5 := b4.ext x5
      have x35 := x4.trans x5
      refine go ?_
      have fin : ∀ H6, Ext H5 H6 → H5 = H6 → True := fun _ _ _ => trivial
      by_cases ht : 0 ≤ target
      case' pos =>
        have d1 : dec (((0 : Nat) : Int) ≤ target) = true := dec_pos ht
        have d2 : dec (target < (N : Int)) = false := dec_neg fun h => hbt ⟨ht, h⟩
        repeat (first | (rw [dtt]; refine go ?_) | (rw [dff]; refine go ?_) | (rw [d1]; refine go ?_) | (rw [d2]; refine go ?_))
      case' neg =>
        have d1 : dec (((0 : Nat) : Int) ≤ target) = false := dec_neg ht
        repeat (first | (rw [dtt]; refine go ?_) | (rw [dff]; refine go ?_) | (rw [d1]; refine go ?_))
      all_goals
        refine RegP.skE ?_
        refine go ?_
        refine RegP.call (out11 (Ext.refl H5)) ?_
        rintro _ H7 ⟨rfl, x7⟩
        refine ⟨.inl x7, ?_⟩
        have b7 := b5.ext x7
        have ma7 := (ma.ext (x35.trans x7)).bytes
        refine go ?_
        refine RegP.call (secret_ok N T K E R size a3 ss3 _ H7 (br3.ext x7) (by omega) (by omega) (by omega) (by omega) hqn) ?_
        rintro _ H8 ⟨sc, rfl, msc, x8⟩
        refine ⟨.inl x8, ?_⟩
        have msc8 := msc.bytes
        have d4 : dec (docL N K size qs3 = docL N K size qs3) = true := dec_pos rfl
        have ow8 := OwnR.rowF (f := I64) (dd := 0) (ow.ext ((x35.trans x7).trans x8))
        refine go ?_
        rw [d4]
        refine go ?_
        refine RegP.call (sameInts_ok w w3 _ _ H8 ow8 ((rw3.ext x7).ext x8) (by omega)) ?_
        rintro _ _ ⟨rfl, rfl⟩
        refine ⟨.inl (Ext.refl _), ?_⟩
        rw [dec_pos rfl]
        refine go ?_
        exact ret1 ⟨rfl, x03.trans ((x35.trans x7).trans x8)⟩
  · refine go ?_
    refine RegS.call (rcolumns_ok size K H3 (by omega) (by omega) (by omega)) ?_
    rintro _ _ ⟨rfl, rfl⟩
    refine go ?_
    refine RegS.call hat ?_
    rintro _ H4 ⟨x4, ⟨hs2', qs2, at', f2, t1, t2, rfl, mat⟩ | ⟨_, rfl⟩⟩
    · exact absurd f2 (hno _ _)
    have b4 := b3.ext x4
    refine go ?_
    refine RegS.call (hrf H4 x4) ?_
    rintro _ H5 ⟨x5, ⟨hs3', qs3, a3, w3, ss3, f3, rfl, br3, rw3⟩ | ⟨_, rfl⟩⟩
    · exact absurd f3 (hno _ _)
    have b5 := b4.ext x5
    refine go ?_
    repeat (first | (rw [dtt]; refine go ?_) | (rw [dff]; refine go ?_))
    refine RegP.skE ?_
    refine go ?_
    refine RegS.call (out11 (x03.trans (x4.trans x5))) ?_
    rintro _ H6 ⟨rfl, x6⟩
    refine go ?_
    exact ret1 ⟨congrArg Value.bool (dec_pos rfl), x6⟩
end Go.Proofs.Ytccgbgjhjpllcaa
