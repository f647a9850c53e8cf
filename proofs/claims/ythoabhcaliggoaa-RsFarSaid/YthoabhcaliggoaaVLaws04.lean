/-
  The laws of layer 4, walked: each returns true.
-/
import Derived.Test.YthoabhcaliggoaaVRs
import Derived.Test.YthoabhcaliggoaaVRef
import Derived.Test.YthoabhcaliggoaaVLaws02
import Derived.Test.YthoabhcaliggoaaVCount
set_option linter.unusedVariables false
set_option linter.unusedSimpArgs false
namespace Go.Proofs.Ythoabhcaliggoaa
open Go Go.Vc Go.Gf

set_option maxRecDepth 100000 in
theorem known_dec : rthrN [1, 2, 3] [5, 5, 5] 3 = [5] ∧ deg1 (rthrN [1, 2, 3] [5, 5, 6] 3) = 3 ∧ deg1 [5] = 1 ∧ vals [1, 1] [7, 8] = [6, 9] := by decide +kernel
theorem known_unlike : unlike [1, 2, 3] := by
  intro i hi j hj
  have hi : i < 3 := hi
  match i, j, hi, hj with
  | 1, 0, _, _ => decide
  | 2, 0, _, _ => decide
  | 2, 1, _, _ => decide
  | i + 3, _, hi, _ => omega
theorem answers04_ok (H : Heap) : CallsH Try.prog 52 [] H fun v H' => v = .bool true ∧ Ext H H' := by
  obtain ⟨k1, k2, k3, k4⟩ := known_dec
  refine CallsH.enter h52 Try.func52 rfl rfl rfl (by decide) fun u => go ?_
  refine RegS.call (new_ok H) ?_
  rintro _ H1 ⟨fb, rfl, hF, e1⟩
  refine go ?_
  refine RegS.buildSlice fun H2 o2 e2 z2 => ?_
  have m2 : Mine H2 H1.size (Sl.fresh H1.size 3) [1, 2, 3] := OwnR.mine (e := 5) o2
  refine go ?_
  refine RegS.buildSlice fun H3 o3 e3 z3 => ?_
  have m3 : Mine H3 H2.size (Sl.fresh H2.size 3) [5, 5, 5] := OwnR.mine (e := 5) o3
  refine go ?_
  refine RegS.call (decode_ok fb _ _ [1, 2, 3] [5, 5, 5] ((0 : Nat) : Int) H3 (hF.ext (e2.trans e3)) (m2.ext e3).bytes m3.bytes (by simp) (by simp) (by omega)) ?_
  rintro _ H4 ⟨e4, ⟨_, _, s4, rfl, m4⟩ | ⟨h4, rfl⟩⟩
  case inr => exact absurd ⟨by omega, rfl, by decide, known_unlike, by rw [show [(1 : UInt8), 2, 3].length = 3 from rfl, k1, k3]; decide⟩ h4
  rw [show [(1 : UInt8), 2, 3].length = 3 from rfl, k1] at m4
  have x4 : Ext H1 H4 := (e2.trans e3).trans e4
  refine go ?_
  refine RegS.buildSlice fun H5 o5 e5 z5 => ?_
  have m5 : Mine H5 H4.size (Sl.fresh H4.size 3) [1, 2, 3] := OwnR.mine (e := 5) o5
  refine go ?_
  refine RegS.buildSlice fun H6 o6 e6 z6 => ?_
  have m6 : Mine H6 H5.size (Sl.fresh H5.size 3) [5, 5, 6] := OwnR.mine (e := 5) o6
  have x6 := x4.trans (e5.trans e6)
  refine go ?_
  refine RegS.call (decode_ok fb _ _ [1, 2, 3] [5, 5, 6] ((0 : Nat) : Int) H6 (hF.ext x6) (m5.ext e6).bytes m6.bytes (by simp) (by simp) (by omega)) ?_
  rintro _ H7 ⟨e7, ⟨_, ⟨_, _, _, h7⟩, _⟩ | ⟨h7, rfl⟩⟩
  · rw [show [(1 : UInt8), 2, 3].length = 3 from rfl, k2] at h7
    exact absurd h7 (by decide)
  have m7 := ((m4.ext (e5.trans e6)).ext e7).bytes
  have x7 := x6.trans e7
  refine go ?_
  rw [dec_pos rfl]
  refine go ?_
  refine RegS.buildSlice fun H8 o8 e8 z8 => ?_
  have m8 : Mine H8 H7.size (Sl.fresh H7.size 2) [1, 1] := OwnR.mine (e := 5) o8
  refine go ?_
  refine RegS.buildSlice fun H9 o9 e9 z9 => ?_
  have m9 : Mine H9 H8.size (Sl.fresh H8.size 2) [7, 8] := OwnR.mine (e := 5) o9
  have x9 := x7.trans (e8.trans e9)
  refine go ?_
  refine RegS.call (encode_ok fb _ _ [1, 1] [7, 8] H9 (hF.ext x9) (m8.ext e9).bytes m9.bytes (by simp) (by simp)) ?_
  rintro _ H10 ⟨s10, rfl, m10, e10⟩
  rw [k4] at m10
  have b10 := m10.bytes
  refine go ?_
  refine ret1 ⟨?_, (e1.trans x9).trans e10⟩
  rw [dec_pos rfl]

theorem out04 {H A : Heap} (e : Ext H A) : CallsH Try.prog 52 [] A fun v H' => v = .bool true ∧ Ext H H' := (answers04_ok A).mono fun v H' h => ⟨h.1, e.trans h.2⟩


theorem rsEncodes_ok (s r : Sl) (p xs : List UInt8) (H : Heap) (hs : Bytes H s p) (hr : Bytes H r xs) (_ : p.length ≤ 140737488351232) (_ : xs.length ≤ 140737488351232) : CallsH Try.prog 13 [s.val, r.val] H (True' H) := by
  refine CallsH.enter h13 Try.func13 rfl rfl rfl (by decide) fun u => go ?_
  refine RegS.sp (fun h => ?_) (fun h => ?_) <;> refine go ?_
  · refine RegS.call (out04 (Ext.refl H)) ?_
    rintro _ H1 ⟨rfl, e1⟩
    refine go ?_
    exact ret1 ⟨rfl, e1⟩
  refine Wp.br (fun h1 => ?_) (fun h1 => ?_) <;> refine go ?_
  · refine RegS.call (out04 (Ext.refl H)) ?_
    rintro _ H1 ⟨rfl, e1⟩
    refine go ?_
    exact ret1 ⟨rfl, e1⟩
  refine RegS.call (new_ok H) ?_
  rintro _ H1 ⟨fb, rfl, hF, e1⟩
  refine go ?_
  refine RegS.call (encode_ok fb s r p xs H1 hF (hs.ext e1) (hr.ext e1) (by omega) (by omega)) ?_
  rintro _ H2 ⟨t, rfl, mt, e2⟩
  have x2 := e1.trans e2
  have bt := mt.bytes
  have hr2 := hr.ext x2
  have hvl := vals_length p xs
  refine go ?_
  refine RegS.call (out04 (Ext.refl H2)) ?_
  rintro _ H3 ⟨rfl, e3⟩
  have x3 := x2.trans e3
  have hr3 := hr.ext x3
  refine go ?_
  refine RegS.call (agrees_ok s r t p xs (vals p xs) H3 (hs.ext x3) hr3 (mt.ext e3).bytes (by omega) (by omega) (by omega)) ?_
  rintro _ _ ⟨rfl, rfl⟩
  rw [agN_all fun i hi => (getD_vals hi).symm]
  refine go ?_
  refine ret1 ⟨?_, x3⟩
  rw [dec_pos rfl]

theorem rsDecodes_ok (s r : Sl) (xs ys : List UInt8) (d : Int) (H : Heap) (hs : Bytes H s xs) (hr : Bytes H r ys) (_ : xs.length ≤ 140737488351232) (_ : ys.length ≤ 140737488351232) (hd : -9223372036854775808 ≤ d ∧ d ≤ 9223372036854775807) : CallsH Try.prog 14 [s.val, r.val, .int .i64 d] H (True' H) := by
  refine CallsH.enter h14 Try.func14 rfl rfl rfl (by decide) fun u => go ?_
  refine RegS.sp (fun h => ?_) (fun h => ?_) <;> refine go ?_
  · refine RegS.call (out04 (Ext.refl H)) ?_
    rintro _ H1 ⟨rfl, e1⟩
    refine go ?_
    exact ret1 ⟨rfl, e1⟩
  refine Wp.br (fun h1 => ?_) (fun h1 => ?_) <;> refine go ?_
  · refine RegS.call (out04 (Ext.refl H)) ?_
    rintro _ H1 ⟨rfl, e1⟩
    refine go ?_
    exact ret1 ⟨rfl, e1⟩
  refine RegS.call (new_ok H) ?_
  rintro _ H1 ⟨fb, rfl, hF, e1⟩
  refine go ?_
  refine RegS.call (decode_ok fb s r xs ys d H1 hF (hs.ext e1) (hr.ext e1) (by omega) (by omega) hd) ?_
  rintro _ H2 ⟨e2, h2⟩
  have x2 := e1.trans e2
  have hs2 := hs.ext x2
  have hr2 := hr.ext x2
  have hlen : (rthrN xs ys xs.length).length = deg1 (rthrN xs ys xs.length) := by rw [← tl_length, tl_rthrN]
  have hul : xs.length = ys.length → CallsH Try.prog 47 [s.val] H2 fun v H' => v = .bool (dec (unlike xs)) ∧ H2 = H' := fun _ => unlike_ok s xs H2 hs2 (by omega)
  by_cases hok : 0 ≤ d ∧ decOk xs ys d
  · obtain ⟨_, _, t, rfl, mt⟩ | ⟨h2, _⟩ := h2
    case inr => exact absurd hok h2
    obtain ⟨h0, k1, k2, k3, k4⟩ := hok
    refine go ?_
    refine RegS.call (hul k1) ?_
    rintro _ _ ⟨rfl, rfl⟩
    rw [dec_pos k3]
    refine go ?_
    refine RegS.call (rthrough_ok s r xs ys H2 hs2 hr2 (by omega) (by omega)) ?_
    rintro _ H3 ⟨t3, rfl, m3, e3⟩
    have b3 := m3.bytes
    have hdl := rthrN_len (xs := xs) (ys := ys) xs.length (Nat.le_refl _)
    refine go ?_
    refine RegS.call (out04 (Ext.refl H3)) ?_
    rintro _ H4 ⟨rfl, e4⟩
    refine go ?_
    refine RegS.call (same_ok t t3 _ _ H4 ((mt.ext e3).ext e4).bytes (m3.ext e4).bytes) ?_
    rintro _ _ ⟨rfl, rfl⟩
    rw [dec_pos rfl]
    refine go ?_
    exact ret1 ⟨rfl, (x2.trans e3).trans e4⟩
  · obtain ⟨h2, h3, _⟩ | ⟨_, rfl⟩ := h2
    · exact absurd ⟨h2, h3⟩ hok
    have fin : ∀ {A : Heap}, Ext H A → CallsH Try.prog 52 [] A fun v H' => v = .bool true ∧ Ext H H' := out04
    refine go ?_
    refine RegS.sp (fun h => ?_) (fun h => ?_) <;> refine go ?_
    · refine RegS.call (fin x2) ?_
      rintro _ H3 ⟨rfl, e3⟩
      refine go ?_
      exact ret1 ⟨congrArg Value.bool (dec_pos rfl), e3⟩
    refine RegS.call (hul (by omega)) ?_
    rintro _ _ ⟨rfl, rfl⟩
    by_cases k3 : unlike xs
    · rw [dec_pos k3]
      refine go ?_
      refine RegS.sp (fun h => ?_) (fun h => ?_) <;> refine go ?_
      · refine RegS.call (fin x2) ?_
        rintro _ H3 ⟨rfl, e3⟩
        refine go ?_
        exact ret1 ⟨congrArg Value.bool (dec_pos rfl), e3⟩
      refine Wp.br (fun h' => ?_) (fun h' => ?_) <;> refine go ?_
      · refine RegS.call (fin x2) ?_
        rintro _ H3 ⟨rfl, e3⟩
        refine go ?_
        exact ret1 ⟨congrArg Value.bool (dec_pos rfl), e3⟩
      refine RegS.call (rthrough_ok s r xs ys H2 hs2 hr2 (by omega) (by omega)) ?_
      rintro _ H3 ⟨t3, rfl, m3, e3⟩
      have b3 := m3.bytes
      have hdl := rthrN_len (xs := xs) (ys := ys) xs.length (Nat.le_refl _)
      have k4 : d < (deg1 (rthrN xs ys xs.length) : Int) - 1 := by
        refine Int.not_le.1 fun k4 => hok ⟨by omega, by omega, by omega, k3, k4⟩
      refine go ?_
      refine RegS.call (fin (x2.trans e3)) ?_
      rintro _ H4 ⟨rfl, e4⟩
      refine go ?_
      exact ret1 ⟨congrArg Value.bool (dec_pos rfl), e4⟩
    · rw [dec_neg k3]
      refine go ?_
      refine RegS.call (fin x2) ?_
      rintro _ H3 ⟨rfl, e3⟩
      refine go ?_
      exact ret1 ⟨congrArg Value.bool (dec_pos rfl), e3⟩

theorem far {p q xs : List UInt8} {n : Nat} (hu : unlike xs) (hp : p.length ≤ n) (hq : q.length ≤ n) (hne : tl p ≠ tl q) : cntP (fun i => decide ((vals p xs).getD i 0 = (vals q xs).getD i 0)) xs.length < n := by
  refine Nat.lt_of_not_le fun h => hne (agree_one hu (Nat.le_trans (deg1_le p) hp) (Nat.le_trans (deg1_le q) hq) ?_)
  refine Nat.le_trans h (Nat.le_of_eq (cntP_congr fun i hi => ?_))
  rw [getD_vals hi, getD_vals hi]

theorem rsFar_ok (s r t : Sl) (p q xs : List UInt8) (H : Heap) (hs : Bytes H s p) (hr : Bytes H r q) (ht : Bytes H t xs) (_ : p.length ≤ 140737488351232) (_ : q.length ≤ 140737488351232) (_ : xs.length ≤ 140737488351232) : CallsH Try.prog 15 [s.val, r.val, t.val] H (True' H) := by
  refine CallsH.enter h15 Try.func15 rfl rfl rfl (by decide) fun u => go ?_
  have fin : ∀ {A : Heap}, Ext H A → CallsH Try.prog 52 [] A fun v H' => v = .bool true ∧ Ext H H' := out04
  refine RegS.sp (fun h1 => ?_) (fun h1 => ?_) <;> refine go ?_
  · refine RegS.call (fin (Ext.refl H)) ?_
    rintro _ H3 ⟨rfl, e3⟩
    refine go ?_
    exact ret1 ⟨rfl, e3⟩
  refine RegS.sp (fun h2 => ?_) (fun h2 => ?_) <;> refine go ?_
  · refine RegS.call (fin (Ext.refl H)) ?_
    rintro _ H3 ⟨rfl, e3⟩
    refine go ?_
    exact ret1 ⟨rfl, e3⟩
  refine RegS.sp (fun h3 => ?_) (fun h3 => ?_) <;> refine go ?_
  · refine RegS.call (fin (Ext.refl H)) ?_
    rintro _ H3 ⟨rfl, e3⟩
    refine go ?_
    exact ret1 ⟨rfl, e3⟩
  refine RegS.call (unlike_ok t xs H ht (by omega)) ?_
  rintro _ _ ⟨rfl, rfl⟩
  by_cases k3 : unlike xs
  case neg =>
    rw [dec_neg k3]
    refine go ?_
    refine RegS.call (fin (Ext.refl H)) ?_
    rintro _ H3 ⟨rfl, e3⟩
    refine go ?_
    exact ret1 ⟨rfl, e3⟩
  rw [dec_pos k3]
  refine go ?_
  refine RegS.call (rtrim_ok s p H hs (by omega)) ?_
  rintro _ H1 ⟨sp, rfl, m1, e1⟩
  refine go ?_
  refine RegS.call (rtrim_ok r q H1 (hr.ext e1) (by omega)) ?_
  rintro _ H2 ⟨sq, rfl, m2, e2⟩
  have x2 := e1.trans e2
  refine go ?_
  refine RegS.call (same_ok sp sq _ _ H2 (m1.ext e2).bytes m2.bytes) ?_
  rintro _ _ ⟨rfl, rfl⟩
  by_cases hne : tl p = tl q
  · rw [dec_pos hne]
    refine go ?_
    refine RegS.call (fin x2) ?_
    rintro _ H3 ⟨rfl, e3⟩
    refine go ?_
    exact ret1 ⟨rfl, e3⟩
  rw [dec_neg hne]
  refine go ?_
  refine RegS.call (new_ok H2) ?_
  rintro _ H3 ⟨fb, rfl, hF, e3⟩
  have x3 := x2.trans e3
  refine go ?_
  refine RegS.call (encode_ok fb s t p xs H3 hF (hs.ext x3) (ht.ext x3) (by omega) (by omega)) ?_
  rintro _ H4 ⟨sa, rfl, ma, e4⟩
  have x4 := x3.trans e4
  refine go ?_
  refine RegS.call (encode_ok fb r t q xs H4 (hF.ext e4) (hr.ext x4) (ht.ext x4) (by omega) (by omega)) ?_
  rintro _ H5 ⟨sb, rfl, mb, e5⟩
  have x5 := x4.trans e5
  have ba := (ma.ext e5).bytes
  have bb := mb.bytes
  have la := vals_length p xs
  have lb := vals_length q xs
  have hs5 := hs.ext x5
  have hr5 := hr.ext x5
  have ht5 := ht.ext x5
  refine go ?_
  refine Wp.loop (ι := Nat) (fun k => [(0, s.val), (1, r.val), (2, t.val), (8, sa.val), (9, sb.val), (10, I64 (cntP (fun i => decide ((vals p xs).getD i 0 = (vals q xs).getD i 0)) k)), (11, I64 k)]) (fun k A => k ≤ xs.length ∧ H5 = A) (fun k => xs.length - k) 0 ⟨rfl, rfl, rfl, rfl, rfl, rfl, rfl, trivial⟩ ⟨Nat.zero_le _, rfl⟩ ?_
  rintro k _ ⟨hk, rfl⟩
  have hck := cntP_le (fun i => decide ((vals p xs).getD i 0 = (vals q xs).getD i 0)) k
  refine go ?_
  refine Wp.br (fun h => ?_) (fun h => ?_) <;> refine go ?_
  · have hst := fun b (hb : decide ((vals p xs).getD k 0 = (vals q xs).getD k 0) = b) => show cntP (fun i => decide ((vals p xs).getD i 0 = (vals q xs).getD i 0)) (k + 1) = cntP (fun i => decide ((vals p xs).getD i 0 = (vals q xs).getD i 0)) k + (if b then 1 else 0) from by rw [cntP, hb]
    refine Wp.br (fun h' => ?_) (fun h' => ?_) <;> refine go ?_
    · have := hst true (decide_eq_true h')
      simp only [if_true] at this
      refine roundQ_n (k + 1) ?_ ⟨by omega, rfl⟩ (by omega)
      rw [this]
      exact ⟨rfl, rfl, rfl, rfl, rfl, rfl, rfl, trivial⟩
    · have := hst false (decide_eq_false h')
      simp only [Bool.false_eq_true, if_false, Nat.add_zero] at this
      refine roundQ_n (k + 1) ?_ ⟨by omega, rfl⟩ (by omega)
      rw [this]
      exact ⟨rfl, rfl, rfl, rfl, rfl, rfl, rfl, trivial⟩
  · have : k = xs.length := by omega
    subst this
    have hfar := far (n := max p.length q.length) k3 (by omega) (by omega) hne
    refine RegS.call (out04 (Ext.refl H5)) ?_
    rintro _ H6 ⟨rfl, e6⟩
    refine go ?_
    refine ret1 ⟨?_, x5.trans e6⟩
    rw [dec_pos (by omega)]

theorem rsBack_ok (s r : Sl) (p xs : List UInt8) (d : UInt8) (H : Heap) (hs : Bytes H s p) (hr : Bytes H r xs) (hp : p.length ≤ 140737488351232) (hx : xs.length ≤ 140737488351232) : CallsH Try.prog 16 [s.val, r.val, B8 d] H (True' H) := by
  refine CallsH.enter h16 Try.func16 rfl rfl rfl (by decide) fun u => go ?_
  have fin : ∀ {A : Heap}, Ext H A → CallsH Try.prog 52 [] A fun v H' => v = .bool true ∧ Ext H H' := out04
  have hn : (d % 20).toNat < 20 := by
    have := UInt8.toNat_mod d 20
    have h20 : (20 : UInt8).toNat = 20 := rfl
    rw [this, h20]
    omega
  generalize (d % 20).toNat = n at hn ⊢
  refine RegS.call (rtrim_ok s p H hs (by omega)) ?_
  rintro _ H1 ⟨sp, rfl, m1, e1⟩
  have b1 := m1.bytes
  have hr1 := hr.ext e1
  have ht := tl_le p
  have htl := tl_length p
  refine go ?_
  refine RegS.sp (fun h1 => ?_) (fun h1 => ?_) <;> refine go ?_
  · refine RegS.call (fin e1) ?_
    rintro _ H3 ⟨rfl, e3⟩
    refine go ?_
    exact ret1 ⟨rfl, e3⟩
  refine RegS.sp (fun h2 => ?_) (fun h2 => ?_) <;> refine go ?_
  · refine RegS.call (fin e1) ?_
    rintro _ H3 ⟨rfl, e3⟩
    refine go ?_
    exact ret1 ⟨rfl, e3⟩
  refine RegS.sp (fun h3 => ?_) (fun h3 => ?_) <;> refine go ?_
  · refine RegS.call (fin e1) ?_
    rintro _ H3 ⟨rfl, e3⟩
    refine go ?_
    exact ret1 ⟨rfl, e3⟩
  refine RegS.call (unlike_ok r xs H1 hr1 (by omega)) ?_
  rintro _ _ ⟨rfl, rfl⟩
  by_cases k3 : unlike xs
  case neg =>
    rw [dec_neg k3]
    refine go ?_
    refine RegS.call (fin e1) ?_
    rintro _ H3 ⟨rfl, e3⟩
    refine go ?_
    exact ret1 ⟨rfl, e3⟩
  rw [dec_pos k3]
  refine go ?_
  refine RegS.call (new_ok H1) ?_
  rintro _ H2 ⟨fb, rfl, hF, e2⟩
  have x2 := e1.trans e2
  refine go ?_
  refine RegS.call (encode_ok fb s r p xs H2 hF (hs.ext x2) (hr.ext x2) (by omega) (by omega)) ?_
  rintro _ H3 ⟨sa, rfl, ma, e3⟩
  have x3 := x2.trans e3
  have la := vals_length p xs
  refine go ?_
  refine RegS.call (decode_ok fb r sa xs (vals p xs) (n : Int) H3 (hF.ext e3) (hr.ext x3) ma.bytes (by omega) (by omega) (by omega)) ?_
  have back : rthrN xs (vals p xs) xs.length = tl p := rthrN_back k3 (by omega) fun i hi => getD_vals hi
  rintro _ H4 ⟨e4, h4⟩
  have x4 := x3.trans e4
  rw [back] at h4
  have hdd : deg1 (tl p) = deg1 p := by rw [← tl_length (tl p), tl_tl, tl_length]
  have hdec : decOk xs (vals p xs) (n : Int) := ⟨la.symm, by omega, k3, by rw [back, hdd]; omega⟩
  obtain ⟨_, _, t, rfl, mt⟩ | ⟨h4, _⟩ := h4
  case inr => exact absurd ⟨by omega, hdec⟩ h4
  refine go ?_
  refine RegS.call (out04 (Ext.refl H4)) ?_
  rintro _ H5 ⟨rfl, e5⟩
  have x5 := x4.trans e5
  refine go ?_
  refine RegS.call (rtrim_ok s p H5 (hs.ext x5) (by omega)) ?_
  rintro _ H6 ⟨tp, rfl, m6, e6⟩
  refine go ?_
  refine RegS.call (same_ok t tp _ _ H6 ((mt.ext e5).ext e6).bytes m6.bytes) ?_
  rintro _ _ ⟨rfl, rfl⟩
  rw [dec_pos rfl]
  refine go ?_
  exact ret1 ⟨rfl, x5.trans e6⟩
theorem rsAdds_ok (s r t : Sl) (p q xs : List UInt8) (H : Heap) (hs : Bytes H s p) (hr : Bytes H r q) (ht : Bytes H t xs) (_ : p.length ≤ 140737488351232) (_ : q.length ≤ 140737488351232) (_ : xs.length ≤ 140737488351232) : CallsH Try.prog 17 [s.val, r.val, t.val] H (True' H) := by
  refine CallsH.enter h17 Try.func17 rfl rfl rfl (by decide) fun u => go ?_
  have fin : ∀ {A : Heap}, Ext H A → CallsH Try.prog 52 [] A fun v H' => v = .bool true ∧ Ext H H' := out04
  refine RegS.sp (fun h1 => ?_) (fun h1 => ?_) <;> refine go ?_
  · refine RegS.call (fin (Ext.refl H)) ?_
    rintro _ H3 ⟨rfl, e3⟩
    refine go ?_
    exact ret1 ⟨rfl, e3⟩
  refine RegS.sp (fun h2 => ?_) (fun h2 => ?_) <;> refine go ?_
  · refine RegS.call (fin (Ext.refl H)) ?_
    rintro _ H3 ⟨rfl, e3⟩
    refine go ?_
    exact ret1 ⟨rfl, e3⟩
  refine Wp.br (fun h3 => ?_) (fun h3 => ?_) <;> refine go ?_
  · refine RegS.call (fin (Ext.refl H)) ?_
    rintro _ H3 ⟨rfl, e3⟩
    refine go ?_
    exact ret1 ⟨rfl, e3⟩
  refine RegS.call (new_ok H) ?_
  rintro _ H1 ⟨fb, rfl, hF, e1⟩
  refine go ?_
  refine RegS.call (encode_ok fb s t p xs H1 hF (hs.ext e1) (ht.ext e1) (by omega) (by omega)) ?_
  rintro _ H2 ⟨sa, rfl, ma, e2⟩
  have x2 := e1.trans e2
  refine go ?_
  refine RegS.call (encode_ok fb r t q xs H2 (hF.ext e2) (hr.ext x2) (ht.ext x2) (by omega) (by omega)) ?_
  rintro _ H3 ⟨sb, rfl, mb, e3⟩
  have x3 := x2.trans e3
  refine go ?_
  refine RegS.call (radd_ok s r p q H3 (hs.ext x3) (hr.ext x3) (by omega) (by omega)) ?_
  rintro _ H4 ⟨sc, rfl, mc, e4⟩
  have x4 := x3.trans e4
  have hlen := tl_le (xadd p q)
  rw [xadd_length] at hlen
  refine go ?_
  refine RegS.call (encode_ok fb sc t (tl (xadd p q)) xs H4 (hF.ext (e2.trans (e3.trans e4))) mc.bytes (ht.ext x4) (by omega) (by omega)) ?_
  rintro _ H5 ⟨sd, rfl, md, e5⟩
  have x5 := x4.trans e5
  have ba := (ma.ext (e3.trans (e4.trans e5))).bytes
  have bb := (mb.ext (e4.trans e5)).bytes
  have bd := md.bytes
  have la := vals_length p xs
  have lb := vals_length q xs
  have ld := vals_length (tl (xadd p q)) xs
  have ht5 := ht.ext x5
  refine go ?_
  refine Wp.loop (ι := Nat) (fun k => [(2, t.val), (8, sa.val), (9, sb.val), (10, sd.val), (11, I64 k)]) (fun k A => k ≤ xs.length ∧ H5 = A) (fun k => xs.length - k) 0 ⟨rfl, rfl, rfl, rfl, rfl, trivial⟩ ⟨Nat.zero_le _, rfl⟩ ?_
  rintro k _ ⟨hk, rfl⟩
  refine go ?_
  refine Wp.br (fun h => ?_) (fun h => ?_) <;> refine go ?_
  · have hk' : k < xs.length := by omega
    have key : (vals p xs).getD k 0 ^^^ (vals q xs).getD k 0 = (vals (tl (xadd p q)) xs).getD k 0 := by
      rw [getD_vals hk', getD_vals hk', getD_vals hk', hor_tl, hor_xadd]
    refine Wp.br (fun h' => absurd key h') (fun h' => ?_)
    refine go ?_
    exact roundQ_n (k + 1) ⟨rfl, rfl, rfl, rfl, rfl, trivial⟩ ⟨by omega, rfl⟩ (by omega)
  · refine RegS.call (fin x5) ?_
    rintro _ H3 ⟨rfl, e3⟩
    refine go ?_
    exact ret1 ⟨rfl, e3⟩
end Go.Proofs.Ythoabhcaliggoaa
