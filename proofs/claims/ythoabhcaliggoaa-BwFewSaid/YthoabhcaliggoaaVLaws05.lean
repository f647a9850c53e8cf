/-
  The laws of layer 5, walked: each returns true.
-/
import Derived.Test.YthoabhcaliggoaaVBw2
import Derived.Test.YthoabhcaliggoaaVRef2
import Derived.Test.YthoabhcaliggoaaVLaws02
set_option linter.unusedVariables false
set_option linter.unusedSimpArgs false
namespace Go.Proofs.Ythoabhcaliggoaa
open Go Go.Vc Go.Gf

theorem unlike123 : unlike [1, 2, 3] := by
  intro i hi j hj
  have hi : i < 3 := hi
  match i, j, hi, hj with
  | 1, 0, _, _ => decide
  | 2, 0, _, _ => decide
  | 2, 1, _, _ => decide
  | i + 3, _, hi, _ => omega
set_option maxRecDepth 100000 in
theorem known_bw : tl [5] = [5] ∧ deg1 [5] = 1 ∧ wrongL [5] [1, 2, 3] [5, 5, 6] 3 = [2] ∧ (wrongL [] [1, 2, 3] [5, 6, 7] 3).length = 3 := by decide +kernel
set_option maxRecDepth 100000 in
theorem known_bw2 : ∀ c : Fin 256, 2 ≤ (wrongL [UInt8.ofNat c.val] [1, 2, 3] [5, 6, 7] 3).length := by decide +kernel
theorem good1 : bwGood [1, 2, 3] [5, 5, 6] 0 1 [5] := by
  obtain ⟨k1, k2, k3, _⟩ := known_bw
  refine ⟨rfl, by decide, unlike123, by decide, by decide, by decide, by decide, k1, by rw [k2]; decide, ?_, ?_⟩
  · rw [show [(1 : UInt8), 2, 3].length = 3 from rfl, k3]; decide
  · rw [show [(1 : UInt8), 2, 3].length = 3 from rfl, k3]; decide
theorem none1 (p : List UInt8) : ¬ bwGood [1, 2, 3] [5, 6, 7] 0 1 p := by
  rintro ⟨_, _, _, _, _, _, _, h1, h2, h3, h4⟩
  rw [show [(1 : UInt8), 2, 3].length = 3 from rfl] at h3 h4
  have hl : p.length ≤ 1 := by rw [← h1, tl_length]; omega
  match p, hl with
  | [], _ => have := known_bw.2.2.2; omega
  | [c], _ =>
    have : 2 ≤ (wrongL [c] [1, 2, 3] [5, 6, 7] 3).length := u8_all (p := fun c => 2 ≤ (wrongL [c] [1, 2, 3] [5, 6, 7] 3).length) known_bw2 c
    omega
set_option maxHeartbeats 1000000 in
theorem answers05_ok (H : Heap) : CallsH Try.prog 55 [] H fun v H' => v = .bool true ∧ Ext H H' := by
  refine CallsH.enter h55 Try.func55 rfl rfl rfl (by decide) fun u => go ?_
  refine RegS.call (new_ok H) ?_
  rintro _ H1 ⟨fb, rfl, hF, e1⟩
  refine go ?_
  refine RegS.buildSlice fun H2 o2 e2 z2 => ?_
  have m2 : Mine H2 H1.size (Sl.fresh H1.size 3) [1, 2, 3] := OwnR.mine (e := 5) o2
  refine go ?_
  refine RegS.buildSlice fun H3 o3 e3 z3 => ?_
  have m3 : Mine H3 H2.size (Sl.fresh H2.size 3) [5, 5, 6] := OwnR.mine (e := 5) o3
  refine go ?_
  refine RegS.call (bw_ok fb _ _ [1, 2, 3] [5, 5, 6] ((0 : Nat) : Int) ((1 : Nat) : Int) H3 (hF.ext (e2.trans e3)) (m2.ext e3).bytes m3.bytes (by simp)) ?_
  rintro _ H4 ⟨e4, ⟨p, s4, O4, g4, rfl, m4, r4⟩ | ⟨h4, _⟩⟩
  case inr => exact absurd good1 (h4 _)
  have hp := bwGood_one g4 good1
  subst hp
  rw [show [(1 : UInt8), 2, 3].length = 3 from rfl, known_bw.2.2.1] at r4
  have x4 := (e2.trans e3).trans e4
  refine go ?_
  refine RegS.buildSlice fun H5 o5 e5 z5 => ?_
  have m5 : Mine H5 H4.size (Sl.fresh H4.size 3) [1, 2, 3] := OwnR.mine (e := 5) o5
  refine go ?_
  refine RegS.buildSlice fun H6 o6 e6 z6 => ?_
  have m6 : Mine H6 H5.size (Sl.fresh H5.size 3) [5, 6, 7] := OwnR.mine (e := 5) o6
  have x6 := x4.trans (e5.trans e6)
  refine go ?_
  refine RegS.call (bw_ok fb _ _ [1, 2, 3] [5, 6, 7] ((0 : Nat) : Int) ((1 : Nat) : Int) H6 (hF.ext x6) (m5.ext e6).bytes m6.bytes (by simp)) ?_
  rintro _ H7 ⟨e7, ⟨p, s7, O7, g7, _⟩ | ⟨h7, rfl⟩⟩
  · exact absurd g7 (none1 p)
  have b7 := ((m4.ext (e5.trans e6)).ext e7).bytes
  have r7 := (r4.ext (e5.trans e6)).ext e7
  have hl1 : ([2] : List Nat).length = 1 := rfl
  have hg2 : ([2] : List Nat).getD 0 0 = 2 := rfl
  refine go ?_
  rw [dec_pos rfl]
  refine go ?_
  exact ret1 ⟨rfl, e1.trans (x6.trans e7)⟩
theorem out05 {H A : Heap} (e : Ext H A) : CallsH Try.prog 55 [] A fun v H' => v = .bool true ∧ Ext H H' := (answers05_ok A).mono fun v H' h => ⟨h.1, e.trans h.2⟩

theorem bwFew_ok (s r : Sl) (xs ys : List UInt8) (d e : UInt8) (H : Heap) (hs : Bytes H s xs) (hr : Bytes H r ys) (hl : xs.length ≤ 140737488351232) (hm : ys.length ≤ 140737488351232) : CallsH Try.prog 21 [s.val, r.val, B8 d, B8 e] H (True' H) := by
  refine CallsH.enter h21 Try.func21 rfl rfl rfl (by decide) fun u => go ?_
  refine RegS.call (new_ok H) ?_
  rintro _ H1 ⟨fb, rfl, hF, e1⟩
  have hd := d.toNat_lt
  have he := e.toNat_lt
  refine go ?_
  refine RegS.call (bw_ok fb s r xs ys (d.toNat : Int) (e.toNat : Int) H1 hF (hs.ext e1) (hr.ext e1) (by omega)) ?_
  rintro _ H2 ⟨e2, h2⟩
  have x2 := e1.trans e2
  have hz0 : ([] : List UInt8).length = 0 := rfl
  have hs2 := hs.ext x2
  obtain ⟨p, t, O, g, rfl, mt, rO⟩ | ⟨h, rfl⟩ := h2
  · obtain ⟨_, _, _, _, _, _, _, _, _, _, g4⟩ := g
    refine go ?_
    refine RegS.call (out05 x2) ?_
    rintro _ H3 ⟨rfl, e3⟩
    refine go ?_
    exact ret1 ⟨rfl, e3⟩
  · refine go ?_
    refine Wp.br (fun hge => ?_) (fun hge => ?_) <;> refine go ?_
    · refine RegS.call (out05 x2) ?_
      rintro _ H3 ⟨rfl, e3⟩
      refine go ?_
      exact ret1 ⟨rfl, e3⟩
    · refine RegS.call (out05 x2) ?_
      rintro _ H3 ⟨rfl, e3⟩
      refine go ?_
      exact ret1 ⟨congrArg Value.bool (dec_pos rfl), e3⟩

set_option maxHeartbeats 2000000 in
theorem bwAgrees_ok (s r : Sl) (xs ys : List UInt8) (d e : Int) (H : Heap) (hs : Bytes H s xs) (hr : Bytes H r ys) (hl : xs.length ≤ 140737488351232) (hm : ys.length ≤ 140737488351232) (hd : -9223372036854775808 ≤ d ∧ d ≤ 9223372036854775807) (he : -9223372036854775808 ≤ e ∧ e ≤ 9223372036854775807) : CallsH Try.prog 19 [s.val, r.val, .int .i64 d, .int .i64 e] H (True' H) := by
  refine CallsH.enter h19 Try.func19 rfl rfl rfl (by decide) fun u => go ?_
  refine RegS.sp (fun h1 => ?_) (fun h1 => ?_) <;> refine go ?_
  · refine RegS.call (out05 (Ext.refl H)) ?_
    rintro _ H3 ⟨rfl, e3⟩
    refine go ?_
    exact ret1 ⟨rfl, e3⟩
  refine RegS.sp (fun h2 => ?_) (fun h2 => ?_) <;> refine go ?_
  · refine RegS.call (out05 (Ext.refl H)) ?_
    rintro _ H3 ⟨rfl, e3⟩
    refine go ?_
    exact ret1 ⟨rfl, e3⟩
  refine Wp.br (fun h3 => ?_) (fun h3 => ?_) <;> refine go ?_
  · refine RegS.call (out05 (Ext.refl H)) ?_
    rintro _ H3 ⟨rfl, e3⟩
    refine go ?_
    exact ret1 ⟨rfl, e3⟩
  refine RegS.call (new_ok H) ?_
  rintro _ H1 ⟨fb, rfl, hF, e1⟩
  refine go ?_
  refine RegS.call (bw_ok fb s r xs ys d e H1 hF (hs.ext e1) (hr.ext e1) (by omega)) ?_
  rintro _ H2 ⟨e2, h2⟩
  have x2 := e1.trans e2
  have hz0 : ([] : List UInt8).length = 0 := rfl
  have hs2 := hs.ext x2
  have hr2 := hr.ext x2
  obtain ⟨p, t, O, g, rfl, mt, rO⟩ | ⟨h, rfl⟩ := h2
  case inr =>
    refine go ?_
    refine RegS.call (out05 x2) ?_
    rintro _ H3 ⟨rfl, e3⟩
    refine go ?_
    exact ret1 ⟨congrArg Value.bool (dec_pos rfl), e3⟩
  obtain ⟨g1, g2, g3, g4, g5, g6, g7, g8, g9, g10, g11⟩ := g
  obtain ⟨d, rfl⟩ := Int.eq_ofNat_of_zero_le g4
  obtain ⟨e, rfl⟩ := Int.eq_ofNat_of_zero_le g6
  have hpl : p.length = deg1 p := by rw [← tl_length, g8]
  have bt := mt.bytes
  have hcnt := wrongL_cnt p xs ys xs.length
  refine go ?_
  refine RegS.call (agrees_ok t s r p xs ys H2 bt hs2 hr2 (by omega) (by omega) (by omega)) ?_
  rintro _ _ ⟨rfl, rfl⟩
  refine go ?_
  refine RegS.call (out05 (Ext.refl H2)) ?_
  rintro _ H3 ⟨rfl, e3⟩
  have x3 := x2.trans e3
  refine go ?_
  refine RegS.call (rtrim_ok t p H3 (mt.ext e3).bytes (by omega)) ?_
  rintro _ H4 ⟨t4, rfl, m4, e4⟩
  rw [g8] at m4
  have x4 := x3.trans e4
  refine go ?_
  refine RegS.call (same_ok t t4 p p H4 ((mt.ext e3).ext e4).bytes m4.bytes) ?_
  rintro _ _ ⟨rfl, rfl⟩
  rw [dec_pos rfl]
  have hs4 := hs.ext x4
  refine go ?_
  refine RegS.call (wrong_ok t s r p xs ys H4 ((mt.ext e3).ext e4).bytes hs4 (hr.ext x4) (by omega) (by omega) (by omega)) ?_
  rintro _ H5 ⟨O5, rfl, r5, e5⟩
  refine go ?_
  refine RegS.call (sameInts_ok O O5 _ _ H5 (((rO.ext e3).ext e4).ext e5) r5 (by omega)) ?_
  rintro _ _ ⟨rfl, rfl⟩
  rw [dec_pos rfl]
  refine go ?_
  exact ret1 ⟨rfl, x4.trans e5⟩

/-- Values, some of which are turned. -/
def turnY (p xs turn : List UInt8) (k : Nat) : List UInt8 := mk k fun i => hor (xs.getD i 0) p ^^^ turn.getD i 0
theorem turnY_succ (p xs turn : List UInt8) (k : Nat) : turnY p xs turn (k + 1) = turnY p xs turn k ++ [hor (xs.getD k 0) p ^^^ turn.getD k 0] := mk_succ _ _
theorem turnY_length (p xs turn : List UInt8) (k : Nat) : (turnY p xs turn k).length = k := mk_length _ _
theorem turnY_wrong {p xs turn : List UInt8} {n i : Nat} (hi : i < n) : (hor (xs.getD i 0) p ≠ (turnY p xs turn n).getD i 0) ↔ turn.getD i 0 ≠ 0 := by
  rw [turnY, mk_getD, if_pos hi]
  refine not_congr ⟨fun h => ?_, fun h => by rw [h, xor_zero]⟩
  have : hor (xs.getD i 0) p ^^^ (hor (xs.getD i 0) p ^^^ turn.getD i 0) = 0 := by rw [← h, xor_self]
  rwa [← UInt8.xor_assoc, xor_self, zero_xor] at this

set_option maxHeartbeats 4000000 in
theorem bwCorrects_ok (s r t : Sl) (p xs turn : List UInt8) (d e : UInt8) (H : Heap) (hs : Bytes H s p) (hr : Bytes H r xs) (ht : Bytes H t turn) (hl : p.length ≤ 140737488351232) (hm : xs.length ≤ 140737488351232) (hn : turn.length ≤ 140737488351232) : CallsH Try.prog 20 [s.val, r.val, t.val, B8 d, B8 e] H (True' H) := by
  refine CallsH.enter h20 Try.func20 rfl rfl rfl (by decide) fun u => go ?_
  have hd : (d % 8).toNat < 8 := by
    have := UInt8.toNat_mod d 8
    have h8 : (8 : UInt8).toNat = 8 := rfl
    rw [this, h8]; omega
  have he : (e % 6).toNat < 6 := by
    have := UInt8.toNat_mod e 6
    have h6 : (6 : UInt8).toNat = 6 := rfl
    rw [this, h6]; omega
  generalize (d % 8).toNat = n at hd ⊢
  generalize (e % 6).toNat = m at he ⊢
  refine RegS.call (rtrim_ok s p H hs (by omega)) ?_
  rintro _ H1 ⟨sp, rfl, m1, e1⟩
  have b1 := m1.bytes
  have hr1 := hr.ext e1
  have ht1 := ht.ext e1
  have htp := tl_le p
  have htl := tl_length p
  refine go ?_
  refine RegS.sp (fun h1 => ?_) (fun h1 => ?_) <;> refine go ?_
  · refine RegS.call (out05 e1) ?_
    rintro _ H3 ⟨rfl, e3⟩
    refine go ?_
    exact ret1 ⟨rfl, e3⟩
  refine RegS.sp (fun h2 => ?_) (fun h2 => ?_) <;> refine go ?_
  · refine RegS.call (out05 e1) ?_
    rintro _ H3 ⟨rfl, e3⟩
    refine go ?_
    exact ret1 ⟨rfl, e3⟩
  refine RegS.sp (fun h3 => ?_) (fun h3 => ?_) <;> refine go ?_
  · refine RegS.call (out05 e1) ?_
    rintro _ H3 ⟨rfl, e3⟩
    refine go ?_
    exact ret1 ⟨rfl, e3⟩
  refine RegS.call (unlike_ok r xs H1 hr1 (by omega)) ?_
  rintro _ _ ⟨rfl, rfl⟩
  by_cases hu : unlike xs
  case neg =>
    rw [dec_neg hu]
    refine go ?_
    refine RegS.call (out05 e1) ?_
    rintro _ H3 ⟨rfl, e3⟩
    refine go ?_
    exact ret1 ⟨rfl, e3⟩
  rw [dec_pos hu]
  refine go ?_
  generalize hY : turnY p xs turn xs.length = Y
  have hYl : Y.length = xs.length := by rw [← hY, turnY_length]
  refine Wp.loop (ι := Nat × Sl × Sl) (fun i => [(0, s.val), (1, r.val), (2, t.val), (11, I64 n), (12, I64 m), (13, i.2.1.val), (14, i.2.2.val), (15, I64 i.1)])
    (fun i A => i.1 ≤ xs.length ∧ Ext H1 A ∧ OwnF B8 A H1.size 5 i.2.1 (turnY p xs turn i.1) ∧ OwnF I64 A H1.size 3 i.2.2 (wrongL p xs Y i.1) ∧ (∀ x, i.2.1.blk = some x → i.2.2.blk ≠ some x)) (fun i => xs.length - i.1) (0, Sl.nil, Sl.nil) subs ⟨Nat.zero_le _, Ext.refl _, OwnR.nil _ _ _ _, OwnR.nil _ _ _ _, fun x h => by simp [Sl.blk, Sl.nil] at h⟩ ?_
  rintro ⟨i, a, b⟩ A ⟨hi, eA, hA, hB, hab⟩
  have hi : i ≤ xs.length := hi
  have hA : OwnF B8 A H1.size 5 a (turnY p xs turn i) := hA
  have hB : OwnF I64 A H1.size 3 b (wrongL p xs Y i) := hB
  have hab : ∀ x, a.blk = some x → b.blk ≠ some x := hab
  have xA := e1.trans eA
  have hsA := hs.ext xA
  have hrA := hr.ext xA
  have htA := ht.ext xA
  have hwl := wrongL_le p xs Y i
  have hsu := wrongL_succ p xs Y i
  have hyl := turnY_length p xs turn i
  have zA := eA.size
  refine go ?_
  refine Wp.br (fun hil => ?_) (fun hil => ?_)
  · have hil : (i : Int) < (xs.length : Int) := hil
    have hwr : (hor (xs.getD i 0) p ≠ Y.getD i 0) ↔ turn.getD i 0 ≠ 0 := by rw [← hY]; exact turnY_wrong (by omega)
    refine go ?_
    refine RegS.call (reval_ok s p (xs.getD i 0) A hsA (by omega)) ?_
    rintro _ _ ⟨rfl, rfl⟩
    -- the value appended
    have tailA : ∀ (v : UInt8), v = hor (xs.getD i 0) p ^^^ turn.getD i 0 → True := fun _ _ => trivial
    refine go ?_
    refine RegS.sp (fun hit => ?_) (fun hit => ?_)
    · refine go ?_
      refine Wp.br (fun hnz => ?_) (fun hnz => ?_) <;> refine go ?_
      · rw [if_pos (hwr.2 hnz)] at hsu
        refine RegP.buildSlice fun A2 o2 y2 w2 => ?_
        have r2 : RowF I64 0 A2 (Sl.fresh A.size 1) [i] := OwnR.rowF (e := 3) (l := [i]) o2
        have z2 := y2.size
        refine go ?_
        refine RegP.append (f := I64) (hB.ext y2) r2 (fun _ => rfl) (by omega) ?_ ?_ ?_
        · simp only [List.length_singleton]; omega
        · simp only [List.length_singleton]; omega
        intro b' A3 hB' cb bb
        have hA3 := (hA.ext y2).chg cb fun x hx hx' => hab x hx hx'
        have e3 : Ext H1 A3 := (eA.trans y2).then cb fun x hx => (hB.blk_ge hx).1
        have ab3 : ∀ x, a.blk = some x → b'.blk ≠ some x := fun x hx hx' => by
          rcases bb with bb | ⟨z, bb, hz⟩
          · exact hab x hx (bb ▸ hx')
          · rw [bb] at hx'; simp only [Option.some.injEq] at hx'; have := (hA.blk_ge hx).2; omega
        have htA3 := ht.ext (e1.trans e3)
        have z3 := cb.size
        refine ⟨.inr proms, ?_⟩
        refine go ?_
        refine RegS.buildSlice fun A4 o4 y4 w4 => ?_
        have m4 : Mine A4 A3.size (Sl.fresh A3.size 1) [hor (xs.getD i 0) p ^^^ turn.getD i 0] := OwnR.mine (e := 5) o4
        have z4 := y4.size
        refine go ?_
        refine RegS.append (f := B8) (hA3.ext y4) m4.bytes (fun _ => rfl) (by omega) ?_ ?_ ?_
        · simp only [List.length_singleton]; omega
        · simp only [List.length_singleton]; omega
        intro a' A5 hA' ca ba
        refine go ?_
        refine roundQ_n (i + 1, a', b') subs ⟨by simp only; omega, (e3.trans y4).then ca fun x hx => (hA.blk_ge hx).1, ?_, ?_, ?_⟩ (by simp only; omega)
        · show OwnF B8 _ _ _ _ (turnY p xs turn (i + 1))
          rw [turnY_succ]; exact hA'
        · show OwnF I64 _ _ _ _ (wrongL p xs Y (i + 1))
          rw [hsu]
          exact (hB'.ext y4).chg ca fun x hx hx' => ab3 x hx' hx
        · intro x hx hx'
          have hx : a'.blk = some x := hx
          have hx' : b'.blk = some x := hx'
          rcases ba with ba | ⟨z, ba, hz⟩
          · exact ab3 x (ba ▸ hx) hx'
          · rw [ba] at hx; simp only [Option.some.injEq] at hx; have := (hB'.blk_ge hx').2; omega
      · have h0 : turn.getD i 0 = 0 := Classical.not_not.1 hnz
        rw [if_neg (fun k => hwr.1 k h0)] at hsu
        refine RegS.buildSlice fun A4 o4 y4 w4 => ?_
        have m4 : Mine A4 A.size (Sl.fresh A.size 1) [hor (xs.getD i 0) p ^^^ turn.getD i 0] := by rw [h0, xor_zero]; exact OwnR.mine (e := 5) o4
        have z4 := y4.size
        refine go ?_
        refine RegS.append (f := B8) (hA.ext y4) m4.bytes (fun _ => rfl) (by omega) ?_ ?_ ?_
        · simp only [List.length_singleton]; omega
        · simp only [List.length_singleton]; omega
        intro a' A5 hA' ca ba
        refine go ?_
        refine roundQ_n (i + 1, a', b) subs ⟨by simp only; omega, (eA.trans y4).then ca fun x hx => (hA.blk_ge hx).1, ?_, ?_, ?_⟩ (by simp only; omega)
        · show OwnF B8 _ _ _ _ (turnY p xs turn (i + 1))
          rw [turnY_succ]; exact hA'
        · show OwnF I64 _ _ _ _ (wrongL p xs Y (i + 1))
          rw [hsu]
          exact (hB.ext y4).chg ca fun x hx hx' => hab x hx' hx
        · intro x hx hx'
          have hx : a'.blk = some x := hx
          have hx' : b.blk = some x := hx'
          rcases ba with ba | ⟨z, ba, hz⟩
          · exact hab x (ba ▸ hx) hx'
          · rw [ba] at hx; simp only [Option.some.injEq] at hx; have := (hB.blk_ge hx').2; omega
    · have h0 : turn.getD i 0 = 0 := getD_ge (by omega)
      rw [if_neg (fun k => hwr.1 k h0)] at hsu
      refine go ?_
      refine RegS.buildSlice fun A4 o4 y4 w4 => ?_
      have m4 : Mine A4 A.size (Sl.fresh A.size 1) [hor (xs.getD i 0) p ^^^ turn.getD i 0] := by rw [h0, xor_zero]; exact OwnR.mine (e := 5) o4
      have z4 := y4.size
      refine go ?_
      refine RegS.append (f := B8) (hA.ext y4) m4.bytes (fun _ => rfl) (by omega) ?_ ?_ ?_
      · simp only [List.length_singleton]; omega
      · simp only [List.length_singleton]; omega
      intro a' A5 hA' ca ba
      refine go ?_
      refine roundQ_n (i + 1, a', b) subs ⟨by simp only; omega, (eA.trans y4).then ca fun x hx => (hA.blk_ge hx).1, ?_, ?_, ?_⟩ (by simp only; omega)
      · show OwnF B8 _ _ _ _ (turnY p xs turn (i + 1))
        rw [turnY_succ]; exact hA'
      · show OwnF I64 _ _ _ _ (wrongL p xs Y (i + 1))
        rw [hsu]
        exact (hB.ext y4).chg ca fun x hx hx' => hab x hx' hx
      · intro x hx hx'
        have hx : a'.blk = some x := hx
        have hx' : b.blk = some x := hx'
        rcases ba with ba | ⟨z, ba, hz⟩
        · exact hab x (ba ▸ hx) hx'
        · rw [ba] at hx; simp only [Option.some.injEq] at hx; have := (hB.blk_ge hx').2; omega
  have hil : ¬ (i : Int) < (xs.length : Int) := hil
  have : i = xs.length := by omega
  subst this
  rw [hY] at hA hyl
  have mA := OwnR.mine hA
  have rB : RowF I64 0 A b (wrongL p xs Y xs.length) := hB.rowF
  refine go ?_
  refine RegS.sp (fun h4 => ?_) (fun h4 => ?_) <;> refine go ?_
  · refine RegS.call (out05 xA) ?_
    rintro _ H3 ⟨rfl, e3⟩
    refine go ?_
    exact ret1 ⟨rfl, e3⟩
  refine Wp.br (fun h5 => ?_) (fun h5 => ?_) <;> refine go ?_
  · refine RegS.call (out05 xA) ?_
    rintro _ H3 ⟨rfl, e3⟩
    refine go ?_
    exact ret1 ⟨rfl, e3⟩
  have hgood : bwGood xs Y (n : Int) (m : Int) (tl p) := by
    have hdd : deg1 (tl p) = deg1 p := by rw [← tl_length (tl p), tl_tl, tl_length]
    have hw := hor_tl_wrong p xs Y xs.length
    exact ⟨hYl.symm, by omega, hu, by omega, by omega, by omega, by omega, tl_tl p, by omega, by rw [hw]; omega, by rw [hw]; omega⟩
  refine RegS.call (new_ok A) ?_
  rintro _ B1 ⟨fb, rfl, hF, f1⟩
  refine go ?_
  refine RegS.call (bw_ok fb r a xs Y (n : Int) (m : Int) B1 hF (hrA.ext f1) (mA.ext f1).bytes (by omega)) ?_
  rintro _ B2 ⟨f2, ⟨q, sq, O, g, rfl, mq, rO⟩ | ⟨h, _⟩⟩
  case inr => exact absurd hgood (h _)
  have hq := bwGood_one g hgood
  subst hq
  have x2 := (xA.trans f1).trans f2
  rw [hor_tl_wrong] at rO
  refine go ?_
  refine RegS.call (out05 (Ext.refl B2)) ?_
  rintro _ B3 ⟨rfl, f3⟩
  have x3 := x2.trans f3
  refine go ?_
  refine RegS.call (rtrim_ok s p B3 (hs.ext x3) (by omega)) ?_
  rintro _ B4 ⟨tp, rfl, m4, f4⟩
  refine go ?_
  refine RegS.call (same_ok sq tp _ _ B4 ((mq.ext f3).ext f4).bytes m4.bytes) ?_
  rintro _ _ ⟨rfl, rfl⟩
  rw [dec_pos rfl]
  refine go ?_
  refine RegS.call (sameInts_ok O b _ _ B4 ((rO.ext f3).ext f4) ((((rB.ext f1).ext f2).ext f3).ext f4) (by omega)) ?_
  rintro _ _ ⟨rfl, rfl⟩
  rw [dec_pos rfl]
  refine go ?_
  exact ret1 ⟨rfl, x3.trans f4⟩
end Go.Proofs.Ythoabhcaliggoaa
