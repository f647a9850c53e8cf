/-
  The laws of layer 11, walked: what they share; the order of shares.
-/
import Derived.Test.YtccgbgjhjpllcaaVOpen6
import Derived.Test.YtccgbgjhjpllcaaVOpenK
import Derived.Test.YtccgbgjhjpllcaaVcMem
import Derived.Test.YtccgbgjhjpllcaaVRef2
set_option linter.unusedVariables false
set_option linter.unusedSimpArgs false
namespace Go.Proofs.Ytccgbgjhjpllcaa
open Go Go.Vc Go.Gf

def Fine (H : Heap) (v : Value) (H' : Heap) : Prop := v = .bool true ∧ Ext H H'
theorem out11 {H A : Heap} (x : Ext H A) : CallsH Try.prog 23 [] A fun v H' => v = .bool true ∧ Ext H H' :=
  (answers11_ok A).mono fun v H' h => ⟨h.1, x.trans h.2⟩
theorem good11_ok (N T K E R : Int) (s : Sl) (fl : List Int) (H : Heap) (hs : RowF IV 0 H s fl) : CallsH Try.prog 22 [pmI N T K E R, s.val] H fun v H' => v = .bool (dec (GoodP N T K E R ∧ fl.length ≤ 9 ∧ N ≤ 30)) ∧ Ext H H' := by
  refine CallsH.enter h22 Try.func22 rfl rfl rfl (by decide) fun u => go ?_
  refine RegS.boxA fun H0 x0 z0 b0 => ?_
  have hs0 := hs.ext x0
  refine go ?_
  refine RegS.call (good_ok N T K E R H0) ?_
  rintro _ H1 ⟨rfl, x1⟩
  have b1 := b0.ext x1
  have hs1 := hs0.ext x1
  have x01 := x0.trans x1
  by_cases hg : GoodP N T K E R
  case neg =>
    rw [dec_neg hg]
    refine go ?_
    exact ret1 ⟨by rw [dec_neg fun k => hg k.1], x01⟩
  rw [dec_pos hg]
  refine go ?_
  refine RegS.sp (fun h1 => ?_) (fun h1 => ?_) <;> refine go ?_
  · refine ret1 ⟨?_, x01⟩
    exact congrArg _ (dec_congr ⟨fun k => ⟨hg, by omega, by omega⟩, fun k => k.2.2⟩)
  · exact ret1 ⟨by rw [dec_neg fun k => h1 (by have := k.2.1; omega)], x01⟩
theorem same11_ok (s r : Sl) (ss rs : List Sl) (l m : List (List UInt8)) (H : Heap) (hs : BRows H s ss l) (hr : BRows H r rs m) (hl : l.length ≤ 9223372036854775806) : CallsH Try.prog 27 [s.val, r.val] H fun v H' => v = .bool (dec (l = m)) ∧ H = H' := by
  have hrow := hs.row
  have hrow' := hr.row
  have hsl := hs.len
  have hrl := hr.len
  refine CallsH.enter h27 Try.func27 rfl rfl rfl (by decide) fun u => go ?_
  refine Wp.br (fun h => ?_) (fun h => ?_) <;> refine go ?_
  · exact ret1 ⟨by rw [dec_neg (p := l = m) (fun k => by subst k; omega)], rfl⟩
  refine Wp.loop (ι := Nat) (fun k => [(0, s.val), (1, r.val), (5, I64 k)]) (fun k A => k ≤ l.length ∧ (∀ i, i < k → l.getD i [] = m.getD i []) ∧ H = A) (fun k => l.length - k) 0 subs ⟨Nat.zero_le _, fun i h => absurd h (Nat.not_lt_zero _), rfl⟩ ?_
  rintro k _ ⟨hk, hall, rfl⟩
  refine go ?_
  refine Wp.br (fun h' => ?_) (fun h' => ?_)
  · have h' : (k : Int) < (ss.length : Int) := h'
    have hb1 := hs.each k (by omega)
    have hb2 := hr.each k (by omega)
    refine go ?_
    refine RegP.q' (h := Rd.neqS rfl rfl rfl) ?_
    refine go ?_
    refine Wp.br (fun h2 => ?_) (fun h2 => ?_) <;> refine go ?_
    · exact ret1 ⟨by rw [dec_neg (p := l = m) (fun e => h2 (by rw [e]))], rfl⟩
    · refine roundQ_n (k + 1) subs ⟨by omega, fun i hi => ?_, rfl⟩ (by omega)
      by_cases e : i = k
      · subst e; exact Classical.not_not.1 h2
      · exact hall i (by omega)
  · have h' : ¬ (k : Int) < (ss.length : Int) := h'
    refine go ?_
    exact ret1 ⟨by rw [dec_pos (p := l = m) (ext_getD [] (by omega) fun i hi => hall i (by omega))], rfl⟩
theorem getD_turn {β : Type} (d : β) {l : List β} {k i : Nat} (hk : k ≤ l.length) : (l.drop k ++ l.take k).getD i d = if i < l.length - k then l.getD (k + i) d else if i < l.length then l.getD (i - (l.length - k)) d else d := by
  simp only [List.getD_eq_getElem?_getD, List.getElem?_append, List.length_drop]
  split
  · rw [List.getElem?_drop]
  · rw [List.getElem?_take]
    split
    · rw [if_pos (by omega)]
    · rw [if_neg (by omega)]; rfl
theorem brows_turn {H : Heap} {r b : Sl} {rs : List Sl} {rows : List (List UInt8)} {k : Nat} (h : BRows H r rs rows) (hk : k ≤ rows.length) (hb : RowF Sl.val Sl.nil H b (rs.drop k ++ rs.take k)) : BRows H b (rs.drop k ++ rs.take k) (rows.drop k ++ rows.take k) := by
  have hl := h.len
  refine ⟨hb, by simp [hl], fun i hi => ?_⟩
  have hi : i < rows.length := by simp at hi; omega
  rw [getD_turn Sl.nil (by omega), getD_turn [] hk, hl]
  by_cases h1 : i < rows.length - k
  · rw [if_pos h1, if_pos h1]; exact h.each _ (by omega)
  · rw [if_neg h1, if_neg h1, if_pos hi, if_pos hi]; exact h.each _ (by omega)
set_option maxHeartbeats 8000000 in
theorem openOrder_ok (N T K E R : Int) (s r : Sl) (rs : List Sl) (fl : List Int) (rows : List (List UInt8)) (size : Int) (turn : UInt8) (H : Heap) (hs : RowF IV 0 H s fl) (hr : BRows H r rs rows) (hl : fl.length * 8 ≤ 140737488351232) (hl2 : rows.length * 24 ≤ 140737488351232)
    (hsz : -9223372036854775808 ≤ size ∧ size ≤ 9223372036854775807) (hp : ∀ x ∈ [N, T, K, E, R], -9223372036854775808 ≤ x ∧ x ≤ 9223372036854775807) : CallsH Try.prog 7 [pmI N T K E R, IV size, s.val, r.val, B8 turn] H (Fine H) := by
  refine CallsH.enter h7 Try.func7 rfl rfl rfl (by decide) fun u => go ?_
  refine RegS.boxA fun H0 x0 z0 b0 => ?_
  refine go ?_
  refine RegS.call (good_ok N T K E R H0) ?_
  rintro _ H1 ⟨rfl, x1⟩
  have b1 := b0.ext x1
  have x01 := x0.trans x1
  have hs1 := hs.ext x01
  have hr1 := hr.ext x01
  have hrow1 := hr1.row
  have hrl := hr.len
  by_cases hg : GoodP N T K E R
  case neg =>
    rw [dec_neg hg]
    refine go ?_
    refine RegS.call (out11 x01) ?_
    rintro _ H3 ⟨rfl, e3⟩
    refine go ?_
    exact ret1 ⟨rfl, e3⟩
  rw [dec_pos hg]
  obtain ⟨g1, g2, g3, g4, g5, g6, g7⟩ := hg
  have q0 := g1 0 (by omega)
  have q1 := g1 1 (by omega)
  have q2 := g1 2 (by omega)
  have q3 := g1 3 (by omega)
  simp only [List.getD_cons_zero, List.getD_cons_succ] at q0 q1 q2 q3
  obtain ⟨N, rfl⟩ := Int.eq_ofNat_of_zero_le q0.1
  obtain ⟨T, rfl⟩ := Int.eq_ofNat_of_zero_le q1.1
  obtain ⟨K, rfl⟩ := Int.eq_ofNat_of_zero_le q2.1
  obtain ⟨E, rfl⟩ := Int.eq_ofNat_of_zero_le q3.1
  obtain ⟨R, rfl⟩ := Int.eq_ofNat_of_zero_le (show 0 ≤ R by omega)
  clear g1 hp
  refine go ?_
  refine RegS.sp (fun h1 => ?_) (fun h1 => ?_) <;> refine go ?_
  · refine RegS.call (out11 x01) ?_
    rintro _ H3 ⟨rfl, e3⟩
    refine go ?_
    exact ret1 ⟨rfl, e3⟩
  refine RegS.sp (fun h2 => ?_) (fun h2 => ?_) <;> refine go ?_
  · refine RegS.call (out11 x01) ?_
    rintro _ H3 ⟨rfl, e3⟩
    refine go ?_
    exact ret1 ⟨rfl, e3⟩
  refine RegS.sp (fun h3 => ?_) (fun h3 => ?_) <;> refine go ?_
  · refine RegS.call (out11 x01) ?_
    rintro _ H3 ⟨rfl, e3⟩
    refine go ?_
    exact ret1 ⟨rfl, e3⟩
  refine RegS.sp (fun h4 => ?_) (fun h4 => ?_) <;> refine go ?_
  · refine RegS.call (out11 x01) ?_
    rintro _ H3 ⟨rfl, e3⟩
    refine go ?_
    exact ret1 ⟨rfl, e3⟩
  refine Wp.br (fun h5 => ?_) (fun h5 => ?_)
  · refine go ?_
    refine RegS.call (out11 x01) ?_
    rintro _ H3 ⟨rfl, e3⟩
    refine go ?_
    exact ret1 ⟨rfl, e3⟩
  obtain ⟨size, rfl⟩ := Int.eq_ofNat_of_zero_le (show 0 ≤ size by omega)
  have hlr : fl.length = rows.length := by omega
  have hpos : 0 < fl.length := by omega
  refine go ?_
  have hk : turn.toNat % fl.length < fl.length := Nat.mod_lt _ hpos
  generalize turn.toNat % fl.length = k at hk ⊢
  have hsl : s.len = fl.length := hs1.len
  have hsc := s.le
  have hh1 : k ≤ s.len ∧ s.len ≤ s.cap ∧ s.cap ≤ s.cap := by omega
  have hh2 : 0 ≤ k ∧ k ≤ s.cap ∧ s.cap ≤ s.cap := by omega
  have k1 : (fl.take s.len).drop k = fl.drop k := by rw [hsl, List.take_length]
  have k2 : (fl.take k).drop 0 = fl.take k := List.drop_zero
  refine RegP.cut k s.len s.cap (.inr ⟨_, _, rfl, rfl⟩) (.inl ⟨rfl, rfl, rfl⟩) (.inl ⟨rfl, rfl⟩) hh1 ?_
  refine go ?_
  refine RegP.cut 0 k s.cap (.inl ⟨rfl, rfl⟩) (.inr ⟨_, _, rfl, rfl⟩) (.inl ⟨rfl, rfl⟩) hh2 ?_
  refine go ?_
  refine RegP.buildSlice fun H2 o2 e2 z2 => ?_
  have o2 : OwnF IV H2 H1.size 3 (Sl.fresh H1.size 0) [] := o2
  have hc1 := (hs1.ext e2).cut hh1 (by omega)
  rw [k1] at hc1
  refine go ?_
  refine RegP.append (f := IV) o2 hc1 (fun _ => rfl) (by omega) ?_ ?_ ?_
  · simp only [List.length_nil, List.length_drop]; omega
  · simp only [List.length_nil, List.length_drop]; omega
  intro a1 H3 o3 c3 q3'
  rw [List.nil_append] at o3
  have e3 : Ext H1 H3 := e2.then c3 fun b hb => (o2.blk_ge hb).1
  have z3 := e3.size
  refine ⟨.inr ?_, ?_⟩
  · refine Proms.cons (promCut (.inl ⟨rfl, rfl⟩) (.inr ⟨_, _, rfl, rfl⟩) (.inl ⟨rfl, rfl⟩) hh2) ?_
    exact proms
  have hc2 := (hs1.ext e3).cut hh2 (by omega)
  rw [k2] at hc2
  refine go ?_
  refine RegP.append (f := IV) o3 hc2 (fun _ => rfl) (by omega) ?_ ?_ ?_
  · simp only [List.length_drop, List.length_take]; omega
  · simp only [List.length_drop, List.length_take]; omega
  intro a H4 o4 c4 q4'
  have e4 : Ext H1 H4 := e3.then c4 fun b hb => (o3.blk_ge hb).1
  refine ⟨.inr Proms.nil, ?_⟩
  refine go ?_
  have hr4 := hr1.ext e4
  have hrow4 := hr4.row
  have hrsl : r.len = rs.length := hrow4.len
  have hrc := r.le
  have jj1 : k ≤ r.len ∧ r.len ≤ r.cap ∧ r.cap ≤ r.cap := by omega
  have jj2 : 0 ≤ k ∧ k ≤ r.cap ∧ r.cap ≤ r.cap := by omega
  have l1 : (rs.take r.len).drop k = rs.drop k := by rw [hrsl, List.take_length]
  have l2 : (rs.take k).drop 0 = rs.take k := List.drop_zero
  refine RegP.cut k r.len r.cap (.inr ⟨_, _, rfl, rfl⟩) (.inl ⟨rfl, rfl, rfl⟩) (.inl ⟨rfl, rfl⟩) jj1 ?_
  refine go ?_
  refine RegP.cut 0 k r.cap (.inl ⟨rfl, rfl⟩) (.inr ⟨_, _, rfl, rfl⟩) (.inl ⟨rfl, rfl⟩) jj2 ?_
  refine go ?_
  refine RegP.buildSlice fun H5 o5 e5 z5 => ?_
  have o5 : OwnF Sl.val H5 H4.size 24 (Sl.fresh H4.size 0) [] := o5
  have hd1 := (hrow4.ext e5).cut jj1 (by omega)
  rw [l1] at hd1
  refine go ?_
  refine RegP.append (f := Sl.val) o5 hd1 (fun _ => rfl) (by omega) ?_ ?_ ?_
  · simp only [List.length_nil, List.length_drop]; omega
  · simp only [List.length_nil, List.length_drop]; omega
  intro d1 H6 o6 c6 q6
  rw [List.nil_append] at o6
  have e6 : Ext H4 H6 := e5.then c6 fun b hb => (o5.blk_ge hb).1
  have z6 := e6.size
  refine ⟨.inr ?_, ?_⟩
  · refine Proms.cons (promCut (.inl ⟨rfl, rfl⟩) (.inr ⟨_, _, rfl, rfl⟩) (.inl ⟨rfl, rfl⟩) jj2) ?_
    exact proms
  have hd2 := (hrow4.ext e6).cut jj2 (by omega)
  rw [l2] at hd2
  refine go ?_
  refine RegP.append (f := Sl.val) o6 hd2 (fun _ => rfl) (by omega) ?_ ?_ ?_
  · simp only [List.length_drop, List.length_take]; omega
  · simp only [List.length_drop, List.length_take]; omega
  intro d H7 o7 c7 q7
  have e7 : Ext H4 H7 := e6.then c7 fun b hb => (o6.blk_ge hb).1
  refine ⟨.inr Proms.nil, ?_⟩
  have e47 := e4.trans e7
  have ra : RowF IV 0 H7 a (fl.drop k ++ fl.take k) := (OwnR.rowF (f := IV) o4).ext e7
  have rd : BRows H7 d (rs.drop k ++ rs.take k) (rows.drop k ++ rows.take k) := brows_turn (hr1.ext e47) (by omega) (OwnR.rowF (f := Sl.val) o7)
  have hs7 := hs1.ext e47
  have hr7 := hr1.ext e47
  have b7 := b1.ext e47
  have x7 := x01.trans e47
  clear o2 o3 o4 o5 o6 o7 c3 c4 c6 c7 q3' q4' q6 q7 hc1 hc2 hd1 hd2 e2 e3 e5 e6 e4 e7 hr4 hrow4 hs1 hr1 b1 b0 hrow1 x01 x0 x1
  refine go ?_
  refine RegS.call (new_ok H7) ?_
  rintro _ H8 ⟨fb, rfl, hF, e8⟩
  have b8 := b7.ext e8
  refine go ?_
  refine RegS.call (open_ok fb N T K E R size s r rs fl rows H8 hF (hs7.ext e8) (hr7.ext e8) (by omega) (by omega) (by omega) (by omega) (by omega) (by omega) (by omega) (by omega) (by omega) (by omega)) ?_
  rintro _ H9 ⟨e9, hv1⟩
  have b9 := b8.ext e9
  have e89 := e8.trans e9
  have go2 := open_ok fb N T K E R size a d (rs.drop k ++ rs.take k) (fl.drop k ++ fl.take k) (rows.drop k ++ rows.take k) H9 (hF.ext e9) (ra.ext e89) (rd.ext e89) (by simp; omega) (by simp; omega) (by omega) (by omega) (by omega) (by omega) (by omega) (by omega) (by omega) (by omega)
  have hz0 : ([] : List Nat).length = 0 := rfl
  obtain ⟨h1', qs1, a1, w1, f1, rfl, ma, ow⟩ | ⟨hno, rfl⟩ := hv1
  · refine go ?_
    refine RegS.call go2 ?_
    rintro _ H10 ⟨e10, ⟨h2', qs2, a2, w2, f2, rfl, ma2, ow2⟩ | ⟨hno, rfl⟩⟩
    case inr => exact absurd (isFound_turn k (by omega) (by omega) (by omega) f1) (hno _ _)
    obtain ⟨rfl, rfl⟩ := f2.one (isFound_turn k (by omega) (by omega) (by omega) f1)
    have hhl : h1'.length = rows.length := by have := f1.2.2.1.1; rw [f1.1] at this; simpa using this
    rw [← offs_turn k hhl] at ow2
    have ow1 := ow.ext e10
    have ma1 := ma.ext e10
    have xa := x7.trans (e89.trans e10)
    refine go ?_
    refine RegS.call (out11 (Ext.refl H10)) ?_
    rintro _ H11 ⟨rfl, e11⟩
    have bb1 := (ma1.ext e11).bytes
    have bb2 := (ma2.ext e11).bytes
    have rr1 := OwnR.rowF (f := I64) (dd := 0) (ow1.ext e11)
    have rr2 := OwnR.rowF (f := I64) (dd := 0) (ow2.ext e11)
    have hol := offs_len N h1' rows qs2
    refine go ?_
    repeat (refine RegS.sp (fun _ => ?_) (fun h => absurd rfl h); refine go ?_)
    refine RegS.call (sameInts_ok w1 w2 _ _ H11 rr1 rr2 (by omega)) ?_
    rintro _ _ ⟨rfl, rfl⟩
    rw [dec_pos rfl]
    refine go ?_
    exact ret1 ⟨rfl, xa.trans e11⟩
  · refine go ?_
    refine RegS.call go2 ?_
    rintro _ H10 ⟨e10, ⟨h2', qs2, a2, w2, f2, rfl, ma2, ow2⟩ | ⟨_, rfl⟩⟩
    · obtain ⟨h3, f3⟩ := isFound_back (by omega) hlr (by omega) (by omega) (by omega) f2
      exact absurd f3 (hno _ _)
    have xa := x7.trans (e89.trans e10)
    refine go ?_
    refine RegS.call (out11 (Ext.refl H10)) ?_
    rintro _ H11 ⟨rfl, e11⟩
    have bb1 := Bytes.nil H11
    have rr1 : RowF I64 0 H11 Sl.nil [] := RowF.nil _
    refine go ?_
    repeat (refine RegS.sp (fun _ => ?_) (fun h => absurd rfl h); refine go ?_)
    refine RegS.call (sameInts_ok Sl.nil Sl.nil _ _ H11 rr1 rr1 (by simp)) ?_
    rintro _ _ ⟨rfl, rfl⟩
    rw [dec_pos rfl]
    refine go ?_
    exact ret1 ⟨rfl, xa.trans e11⟩
end Go.Proofs.Ytccgbgjhjpllcaa
