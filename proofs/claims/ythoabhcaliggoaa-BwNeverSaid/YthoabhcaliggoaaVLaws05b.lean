/-
  The laws of layer 5, walked: the other two.
-/
import Derived.Test.YthoabhcaliggoaaVLaws05
set_option linter.unusedVariables false
set_option linter.unusedSimpArgs false
namespace Go.Proofs.Ythoabhcaliggoaa
open Go Go.Vc Go.Gf

set_option maxHeartbeats 4000000 in
theorem bwNever_ok (s r t : Sl) (p xs turn : List UInt8) (d e : UInt8) (H : Heap) (hs : Bytes H s p) (hr : Bytes H r xs) (ht : Bytes H t turn) (hl : p.length ≤ 140737488351232) (hm : xs.length ≤ 140737488351232) (hn : turn.length ≤ 140737488351232) : CallsH Try.prog 22 [s.val, r.val, t.val, B8 d, B8 e] H (True' H) := by
  refine CallsH.enter h22 Try.func22 rfl rfl rfl (by decide) fun u => go ?_
  have hd : (d % 8).toNat < 8 := by
    have := UInt8.toNat_mod d 8
    have h8 : (8 : UInt8).toNat = 8 := rfl
    rw [this, h8]; omega
  have he : (e % 6).toNat < 6 := by
    have := UInt8.toNat_mod e 6
    have h6 : (6 : UInt8).toNat = 6 := rfl
    rw [this, h6]; omega
  generalize (d % 8).toNat = n at hd ⊢
  generalize (e % 6).toNat = m at he ⊢
  refine RegS.call (rtrim_ok s p H hs (by omega)) ?_
  rintro _ H1 ⟨sp, rfl, m1, e1⟩
  have b1 := m1.bytes
  have hr1 := hr.ext e1
  have ht1 := ht.ext e1
  have htp := tl_le p
  have htl := tl_length p
  refine go ?_
  refine RegS.sp (fun h1 => ?_) (fun h1 => ?_) <;> refine go ?_
  · refine RegS.call (out05 e1) ?_
    rintro _ H3 ⟨rfl, e3⟩
    refine go ?_
    exact ret1 ⟨rfl, e3⟩
  refine RegS.sp (fun h2 => ?_) (fun h2 => ?_) <;> refine go ?_
  · refine RegS.call (out05 e1) ?_
    rintro _ H3 ⟨rfl, e3⟩
    refine go ?_
    exact ret1 ⟨rfl, e3⟩
  refine RegS.call (unlike_ok r xs H1 hr1 (by omega)) ?_
  rintro _ _ ⟨rfl, rfl⟩
  by_cases hu : unlike xs
  case neg =>
    rw [dec_neg hu]
    refine go ?_
    refine RegS.call (out05 e1) ?_
    rintro _ H3 ⟨rfl, e3⟩
    refine go ?_
    exact ret1 ⟨rfl, e3⟩
  rw [dec_pos hu]
  refine go ?_
  generalize hY : turnY p xs turn xs.length = Y
  have hYl : Y.length = xs.length := by rw [← hY, turnY_length]
  refine Wp.loop (ι := Nat × Sl) (fun i => [(0, s.val), (1, r.val), (2, t.val), (11, I64 n), (12, I64 m), (13, i.2.val), (14, I64 (wrongL p xs Y i.1).length), (15, I64 i.1)])
    (fun i A => i.1 ≤ xs.length ∧ Ext H1 A ∧ OwnF B8 A H1.size 5 i.2 (turnY p xs turn i.1)) (fun i => xs.length - i.1) (0, Sl.nil) subs ⟨Nat.zero_le _, Ext.refl _, OwnR.nil _ _ _ _⟩ ?_
  rintro ⟨i, a⟩ A ⟨hi, eA, hA⟩
  have hi : i ≤ xs.length := hi
  have hA : OwnF B8 A H1.size 5 a (turnY p xs turn i) := hA
  have xA := e1.trans eA
  have hsA := hs.ext xA
  have hrA := hr.ext xA
  have htA := ht.ext xA
  have hwl := wrongL_le p xs Y i
  have hsu := wrongL_succ p xs Y i
  have hyl := turnY_length p xs turn i
  have zA := eA.size
  show Wp _ _ _ [(0, s.val), (1, r.val), (2, t.val), (11, I64 n), (12, I64 m), (13, a.val), (14, I64 (wrongL p xs Y i).length), (15, I64 i)] _ _
  refine go ?_
  refine Wp.br (fun hil => ?_) (fun hil => ?_)
  · have hil : (i : Int) < (xs.length : Int) := hil
    have hwr : (hor (xs.getD i 0) p ≠ Y.getD i 0) ↔ turn.getD i 0 ≠ 0 := by rw [← hY]; exact turnY_wrong (by omega)
    refine go ?_
    refine RegS.call (reval_ok s p (xs.getD i 0) A hsA (by omega)) ?_
    rintro _ _ ⟨rfl, rfl⟩
    refine go ?_
    refine RegS.sp (fun hit => ?_) (fun hit => ?_)
    · refine go ?_
      refine Wp.br (fun hnz => ?_) (fun hnz => ?_) <;> refine go ?_
      · rw [if_pos (hwr.2 hnz)] at hsu
        have hsl : (wrongL p xs Y (i + 1)).length = (wrongL p xs Y i).length + 1 := by rw [hsu]; simp
        refine RegS.buildSlice fun A4 o4 y4 w4 => ?_
        have m4 : Mine A4 A.size (Sl.fresh A.size 1) [hor (xs.getD i 0) p ^^^ turn.getD i 0] := OwnR.mine (e := 5) o4
        have z4 := y4.size
        refine go ?_
        refine RegS.append (f := B8) (hA.ext y4) m4.bytes (fun _ => rfl) (by omega) ?_ ?_ ?_
        · simp only [List.length_singleton]; omega
        · simp only [List.length_singleton]; omega
        intro a' A5 hA' ca ba
        refine go ?_
        refine roundQ_n (i + 1, a') ⟨rfl, rfl, rfl, rfl, rfl, rfl, ?_, rfl, trivial⟩ ⟨by simp only; omega, (eA.trans y4).then ca fun x hx => (hA.blk_ge hx).1, ?_⟩ (by simp only; omega)
        · exact get_int rfl (by simp only; omega)
        · show OwnF B8 _ _ _ _ (turnY p xs turn (i + 1))
          rw [turnY_succ]; exact hA'
      · have h0 : turn.getD i 0 = 0 := Classical.not_not.1 hnz
        rw [if_neg (fun k => hwr.1 k h0)] at hsu
        refine RegS.buildSlice fun A4 o4 y4 w4 => ?_
        have m4 : Mine A4 A.size (Sl.fresh A.size 1) [hor (xs.getD i 0) p ^^^ turn.getD i 0] := by rw [h0, xor_zero]; exact OwnR.mine (e := 5) o4
        have z4 := y4.size
        refine go ?_
        refine RegS.append (f := B8) (hA.ext y4) m4.bytes (fun _ => rfl) (by omega) ?_ ?_ ?_
        · simp only [List.length_singleton]; omega
        · simp only [List.length_singleton]; omega
        intro a' A5 hA' ca ba
        refine go ?_
        refine roundQ_n (i + 1, a') ⟨rfl, rfl, rfl, rfl, rfl, rfl, ?_, rfl, trivial⟩ ⟨by simp only; omega, (eA.trans y4).then ca fun x hx => (hA.blk_ge hx).1, ?_⟩ (by simp only; omega)
        · exact get_int rfl (by simp only [hsu])
        · show OwnF B8 _ _ _ _ (turnY p xs turn (i + 1))
          rw [turnY_succ]; exact hA'
    · have h0 : turn.getD i 0 = 0 := getD_ge (by omega)
      rw [if_neg (fun k => hwr.1 k h0)] at hsu
      refine go ?_
      refine RegS.buildSlice fun A4 o4 y4 w4 => ?_
      have m4 : Mine A4 A.size (Sl.fresh A.size 1) [hor (xs.getD i 0) p ^^^ turn.getD i 0] := by rw [h0, xor_zero]; exact OwnR.mine (e := 5) o4
      have z4 := y4.size
      refine go ?_
      refine RegS.append (f := B8) (hA.ext y4) m4.bytes (fun _ => rfl) (by omega) ?_ ?_ ?_
      · simp only [List.length_singleton]; omega
      · simp only [List.length_singleton]; omega
      intro a' A5 hA' ca ba
      refine go ?_
      refine roundQ_n (i + 1, a') ⟨rfl, rfl, rfl, rfl, rfl, rfl, ?_, rfl, trivial⟩ ⟨by simp only; omega, (eA.trans y4).then ca fun x hx => (hA.blk_ge hx).1, ?_⟩ (by simp only; omega)
      · exact get_int rfl (by simp only [hsu])
      · show OwnF B8 _ _ _ _ (turnY p xs turn (i + 1))
        rw [turnY_succ]; exact hA'
  have hil : ¬ (i : Int) < (xs.length : Int) := hil
  have : i = xs.length := by omega
  subst this
  rw [hY] at hA hyl
  have mA := OwnR.mine hA
  refine go ?_
  refine RegS.call (new_ok A) ?_
  rintro _ B1 ⟨fb, rfl, hF, f1⟩
  refine go ?_
  refine RegS.call (bw_ok fb r a xs Y (n : Int) (m : Int) B1 hF (hrA.ext f1) (mA.ext f1).bytes (by omega)) ?_
  rintro _ B2 ⟨f2, h2⟩
  have x2 := (xA.trans f1).trans f2
  obtain ⟨q, sq, O, g, rfl, mq, rO⟩ | ⟨h, rfl⟩ := h2
  · refine go ?_
    refine RegS.call (out05 (Ext.refl B2)) ?_
    rintro _ B3 ⟨rfl, f3⟩
    have x3 := x2.trans f3
    refine go ?_
    refine RegS.sp (fun hgt => ?_) (fun hgt => ?_) <;> refine go ?_
    · exact ret1 ⟨rfl, x3⟩
    refine RegS.call (rtrim_ok s p B3 (hs.ext x3) (by omega)) ?_
    rintro _ B4 ⟨tp, rfl, m4, f4⟩
    refine go ?_
    refine RegS.call (same_ok sq tp _ _ B4 ((mq.ext f3).ext f4).bytes m4.bytes) ?_
    rintro _ _ ⟨rfl, rfl⟩
    obtain ⟨_, _, _, _, _, _, _, g8, g9, g10, g11⟩ := g
    have hq : q = tl p := by
      rw [← g8]
      exact agree_two (n := n + 1) hu (by omega) (by omega) (ys := Y) (by omega)
    rw [hq, dec_pos rfl]
    refine go ?_
    exact ret1 ⟨rfl, x3.trans f4⟩
  · refine go ?_
    refine RegS.call (out05 x2) ?_
    rintro _ B3 ⟨rfl, x3⟩
    refine go ?_
    refine RegS.sp (fun hgt => ?_) (fun hgt => ?_) <;> refine go ?_
    · exact ret1 ⟨rfl, x3⟩
    · exact ret1 ⟨rfl, x3⟩

set_option maxHeartbeats 4000000 in
theorem bwDecodes_ok (s r : Sl) (xs ys : List UInt8) (d e : Int) (H : Heap) (hs : Bytes H s xs) (hr : Bytes H r ys) (hl : xs.length ≤ 140737488351232) (hm : ys.length ≤ 140737488351232) (hd : -9223372036854775808 ≤ d ∧ d ≤ 9223372036854775807) (he : -9223372036854775808 ≤ e ∧ e ≤ 9223372036854775807) : CallsH Try.prog 18 [s.val, r.val, .int .i64 d, .int .i64 e] H (True' H) := by
  refine CallsH.enter h18 Try.func18 rfl rfl rfl (by decide) fun u => go ?_
  refine RegS.sp (fun h1 => ?_) (fun h1 => ?_) <;> refine go ?_
  · refine RegS.call (out05 (Ext.refl H)) ?_
    rintro _ H3 ⟨rfl, e3⟩
    refine go ?_
    exact ret1 ⟨rfl, e3⟩
  refine Wp.br (fun h2 => ?_) (fun h2 => ?_) <;> refine go ?_
  · refine RegS.call (out05 (Ext.refl H)) ?_
    rintro _ H3 ⟨rfl, e3⟩
    refine go ?_
    exact ret1 ⟨rfl, e3⟩
  refine RegS.call (new_ok H) ?_
  rintro _ H1 ⟨fb, rfl, hF, e1⟩
  refine go ?_
  refine RegS.call (bw_ok fb s r xs ys d e H1 hF (hs.ext e1) (hr.ext e1) (by omega)) ?_
  rintro _ H2 ⟨e2, hv⟩
  have x2 := e1.trans e2
  have hz0 : ([] : List UInt8).length = 0 := rfl
  have hs2 := hs.ext x2
  have hr2 := hr.ext x2
  by_cases hc : xs.length = ys.length ∧ unlike xs ∧ 0 ≤ d ∧ 0 ≤ e ∧ d ≤ 255 ∧ e ≤ 255 ∧ d + 1 + e ≤ xs.length
  case neg =>
    obtain ⟨p, t, O, ⟨g1, g2, g3, g4, g5, g6, g7, g8, g9, g10, g11⟩, _⟩ | ⟨_, rfl⟩ := hv
    · exact absurd ⟨g1, g3, g4, g6, g5, g7, by omega⟩ hc
    refine go ?_
    refine RegS.sp (fun h3 => ?_) (fun h3 => ?_) <;> refine go ?_
    · refine RegS.call (out05 x2) ?_
      rintro _ H3 ⟨rfl, e3⟩
      refine go ?_
      exact ret1 ⟨congrArg Value.bool (dec_pos rfl), e3⟩
    refine RegS.call (unlike_ok s xs H2 hs2 (by omega)) ?_
    rintro _ _ ⟨rfl, rfl⟩
    by_cases hu : unlike xs
    case neg =>
      rw [dec_neg hu]
      refine go ?_
      refine RegS.call (out05 x2) ?_
      rintro _ H3 ⟨rfl, e3⟩
      refine go ?_
      exact ret1 ⟨congrArg Value.bool (dec_pos rfl), e3⟩
    rw [dec_pos hu]
    refine go ?_
    refine RegS.sp (fun h4 => ?_) (fun h4 => ?_) <;> refine go ?_
    · refine RegS.call (out05 x2) ?_
      rintro _ H3 ⟨rfl, e3⟩
      refine go ?_
      exact ret1 ⟨congrArg Value.bool (dec_pos rfl), e3⟩
    refine RegS.sp (fun h5 => ?_) (fun h5 => ?_) <;> refine go ?_
    · refine RegS.call (out05 x2) ?_
      rintro _ H3 ⟨rfl, e3⟩
      refine go ?_
      exact ret1 ⟨congrArg Value.bool (dec_pos rfl), e3⟩
    refine RegS.sp (fun h6 => ?_) (fun h6 => ?_) <;> refine go ?_
    · refine RegS.call (out05 x2) ?_
      rintro _ H3 ⟨rfl, e3⟩
      refine go ?_
      exact ret1 ⟨congrArg Value.bool (dec_pos rfl), e3⟩
    refine RegS.sp (fun h7 => ?_) (fun h7 => ?_) <;> refine go ?_
    · refine RegS.call (out05 x2) ?_
      rintro _ H3 ⟨rfl, e3⟩
      refine go ?_
      exact ret1 ⟨congrArg Value.bool (dec_pos rfl), e3⟩
    refine Wp.br (fun h8 => ?_) (fun h8 => absurd ⟨by omega, hu, by omega, by omega, by omega, by omega, by omega⟩ hc)
    refine go ?_
    refine RegS.call (out05 x2) ?_
    rintro _ H3 ⟨rfl, e3⟩
    refine go ?_
    exact ret1 ⟨congrArg Value.bool (dec_pos rfl), e3⟩
  obtain ⟨c1, c2, c3, c4, c5, c6, c7⟩ := hc
  obtain ⟨d, rfl⟩ := Int.eq_ofNat_of_zero_le c3
  obtain ⟨e, rfl⟩ := Int.eq_ofNat_of_zero_le c4
  have agr : ∀ A, Ext H A → CallsH Try.prog 57 [s.val, r.val, I64 d, I64 (max (d + 1 + e) (xs.length - e))] A (AgR A xs ys d (max (d + 1 + e) (xs.length - e))) := fun A x => agreed_ok s r xs ys d _ A (hs.ext x) (hr.ext x) (by omega) (by omega) (by omega)
  have hgood : ∀ l ∈ pk (d + 1) xs.length, max (d + 1 + e) (xs.length - e) ≤ agN (pickP xs ys l) xs ys xs.length → bwGood xs ys d e (pickP xs ys l) := fun l hl ha => by
    have h1 := pickP_len (xs := xs) (ys := ys) l
    have h2 := (pk_each _ _ l hl).1
    have h3 := deg1_le (pickP xs ys l)
    have h4 := wrongL_cnt (pickP xs ys l) xs ys xs.length
    exact ⟨c1, by omega, c2, by omega, by omega, by omega, by omega, pickP_tl _ _ _, by omega, by omega, by omega⟩
  have hfound : ∀ p, bwGood xs ys d e p → ∃ l ∈ pk (d + 1) xs.length, pickP xs ys l = p ∧ max (d + 1 + e) (xs.length - e) ≤ agN p xs ys xs.length := fun p hg => by
    obtain ⟨_, _, _, _, _, _, _, g8, g9, g10, g11⟩ := hg
    have h4 := wrongL_cnt p xs ys xs.length
    obtain ⟨l, hl, he⟩ := pick_found (d := d) c2 (p := p) (ys := ys) (by omega) (by omega)
    exact ⟨l, hl, by rw [he, g8], by omega⟩
  obtain ⟨p, t, O, g, rfl, mt, rO⟩ | ⟨hno, rfl⟩ := hv
  · have bt := mt.bytes
    refine go ?_
    refine RegS.call (unlike_ok s xs H2 hs2 (by omega)) ?_
    rintro _ _ ⟨rfl, rfl⟩
    rw [dec_pos c2]
    refine go ?_
    refine RegS.call (agr H2 x2) ?_
    rintro _ H3 ⟨e3, ⟨l, sl, hl, ha, rfl, m3⟩ | ⟨ha, _⟩⟩
    case inr =>
      obtain ⟨l, hl, hp, hag⟩ := hfound p g
      have := ha l hl
      rw [hp] at this
      omega
    have hp := bwGood_one g (hgood l hl ha)
    rw [← hp] at m3
    have x3 := x2.trans e3
    refine go ?_
    refine RegS.call (out05 (Ext.refl H3)) ?_
    rintro _ H4 ⟨rfl, e4⟩
    have x4 := x3.trans e4
    refine go ?_
    refine RegS.call (same_ok t sl p p H4 ((mt.ext e3).ext e4).bytes (m3.ext e4).bytes) ?_
    rintro _ _ ⟨rfl, rfl⟩
    rw [dec_pos rfl]
    have hpl : p.length ≤ d + 1 := by rw [← g.2.2.2.2.2.2.2.1, tl_length]; have := g.2.2.2.2.2.2.2.2.1; omega
    have hwl := wrongL_le p xs ys xs.length
    refine go ?_
    refine RegS.call (wrong_ok sl s r p xs ys H4 (m3.ext e4).bytes (hs.ext x4) (hr.ext x4) (by omega) (by omega) (by omega)) ?_
    rintro _ H5 ⟨O5, rfl, r5, e5⟩
    refine go ?_
    refine RegS.call (sameInts_ok O O5 _ _ H5 (((rO.ext e3).ext e4).ext e5) r5 (by omega)) ?_
    rintro _ _ ⟨rfl, rfl⟩
    rw [dec_pos rfl]
    refine go ?_
    exact ret1 ⟨rfl, x4.trans e5⟩
  · refine go ?_
    refine RegS.call (unlike_ok s xs H2 hs2 (by omega)) ?_
    rintro _ _ ⟨rfl, rfl⟩
    rw [dec_pos c2]
    refine go ?_
    refine RegS.call (agr H2 x2) ?_
    rintro _ H3 ⟨e3, ⟨l, sl, hl, ha, rfl, m3⟩ | ⟨ha, rfl⟩⟩
    · exact absurd (hgood l hl ha) (hno _)
    refine go ?_
    refine RegS.call (out05 (x2.trans e3)) ?_
    rintro _ H4 ⟨rfl, e4⟩
    refine go ?_
    exact ret1 ⟨congrArg Value.bool (dec_pos rfl), e4⟩
end Go.Proofs.Ythoabhcaliggoaa
