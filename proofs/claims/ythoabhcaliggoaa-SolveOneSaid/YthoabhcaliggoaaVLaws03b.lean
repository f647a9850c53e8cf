/-
  The laws of layer 3, walked: the other two.
-/
import Derived.Test.YthoabhcaliggoaaVLaws03
set_option linter.unusedVariables false
set_option linter.unusedSimpArgs false
namespace Go.Proofs.Ythoabhcaliggoaa
open Go Go.Vc Go.Gf

theorem dots_getD {rows : List (List UInt8)} {x : List UInt8} {k i : Nat} (hi : i < k) : (dots rows x k).getD i 0 = dotN (gM rows) (fun j => x.getD j 0) x.length i := by rw [dots, mk_getD, if_pos hi]
theorem dots_length (rows : List (List UInt8)) (x : List UInt8) (k : Nat) : (dots rows x k).length = k := mk_length _ _

theorem solveBack_ok (s r : Sl) (ss : List Sl) (rows : List (List UInt8)) (x : List UInt8) (H : Heap) (hs : BRows H s ss rows) (hr : Bytes H r x) (hl : rows.length ≤ 9223372036854775807) (hl2 : x.length ≤ 140737488351232) : CallsH Try.prog 5 [s.val, r.val] H (True' H) := by
  refine CallsH.enter h5 Try.func5 rfl rfl rfl (by decide) fun u => go ?_
  refine RegS.call (small_ok s ss rows H hs hl) ?_
  rintro _ _ ⟨rfl, rfl⟩
  have hlen := hs.len
  have hrow := hs.row
  have fin : ∀ A, Ext H A → CallsH Try.prog 24 [] A fun v H' => v = .bool true ∧ Ext H H' := fun A e => out03 e
  by_cases hsm : smallP rows
  case neg =>
    rw [dec_neg hsm]
    refine go ?_
    refine RegS.call (fin H (Ext.refl H)) ?_
    rintro _ H1 ⟨rfl, e1⟩
    refine go ?_
    exact ret1 ⟨rfl, e1⟩
  rw [dec_pos hsm]
  have h0 := smallP_zero hsm
  have h1 := hsm.1
  refine go ?_
  refine RegS.call (rightL_ok s ss rows H hs (by omega)) ?_
  rintro _ _ ⟨rfl, rfl⟩
  by_cases hrc : rect rows
  case neg =>
    rw [dec_neg hrc]
    refine go ?_
    refine RegS.call (fin H (Ext.refl H)) ?_
    rintro _ H1 ⟨rfl, e1⟩
    refine go ?_
    exact ret1 ⟨rfl, e1⟩
  rw [dec_pos hrc]
  refine go ?_
  refine RegS.sp (fun hz => ?_) (fun hz => ?_) <;> refine go ?_
  · refine RegS.call (fin H (Ext.refl H)) ?_
    rintro _ H1 ⟨rfl, e1⟩
    refine go ?_
    exact ret1 ⟨rfl, e1⟩
  have hB0 := hs.each 0 (by omega)
  refine go ?_
  refine Wp.br (fun hq => ?_) (fun hq => ?_) <;> refine go ?_
  · refine RegS.call (fin H (Ext.refl H)) ?_
    rintro _ H1 ⟨rfl, e1⟩
    refine go ?_
    exact ret1 ⟨rfl, e1⟩
  have hxn : x.length = (rows.getD 0 []).length := by omega
  refine Wp.loop (ι := Nat × Sl) (fun i => [(0, s.val), (1, r.val), (5, i.2.val), (6, I64 i.1)]) (fun i A => i.1 ≤ rows.length ∧ OwnF B8 A H.size 5 i.2 (dots rows x i.1) ∧ Ext H A) (fun i => rows.length - i.1) (0, Sl.nil) ⟨rfl, rfl, rfl, rfl, trivial⟩ ⟨Nat.zero_le _, OwnR.nil _ _ _ _, Ext.refl _⟩ ?_
  rintro ⟨i, t⟩ A ⟨hi, hO, eA⟩
  have hi : i ≤ rows.length := hi
  have hO : OwnF B8 A H.size 5 t (dots rows x i) := hO
  have hsA := hs.ext eA
  have hrA := hsA.row
  have hxA := hr.ext eA
  have zA := eA.size
  refine go ?_
  refine Wp.br (fun hil => ?_) (fun hil => ?_)
  · have hil : (i : Int) < (ss.length : Int) := hil
    have hBi := hsA.each i (by omega)
    have hwi := hrc i (by omega)
    refine go ?_
    refine Wp.loop (ι := Nat) (fun j => [(0, s.val), (1, r.val), (5, t.val), (6, I64 i), (7, B8 (dotN (gM rows) (fun j => x.getD j 0) j i)), (8, I64 j)]) (fun j A' => j ≤ x.length ∧ A = A') (fun j => x.length - j) 0 ⟨rfl, rfl, rfl, rfl, rfl, rfl, trivial⟩ ⟨Nat.zero_le _, rfl⟩ ?_
    rintro j _ ⟨hj, rfl⟩
    refine go ?_
    refine Wp.br (fun hjl => ?_) (fun hjl => ?_) <;> refine go ?_
    · refine RegP.call (rmul_ok _ _ A) ?_
      rintro _ _ ⟨rfl, rfl⟩
      refine ⟨.inl (Ext.refl _), ?_⟩
      refine go ?_
      exact roundQ_n (j + 1) ⟨rfl, rfl, rfl, rfl, rfl, rfl, trivial⟩ ⟨by omega, rfl⟩ (by omega)
    · have : j = x.length := by omega
      subst this
      refine RegS.buildSlice fun A1 o1 y1 w1 => ?_
      have m1 : Mine A1 A.size (Sl.fresh A.size 1) [dotN (gM rows) (fun j => x.getD j 0) x.length i] := OwnR.mine (e := 5) o1
      refine go ?_
      have hdl := dots_length rows x i
      refine RegS.append (f := B8) (hO.ext y1) m1.bytes (fun _ => rfl) (by omega) ?_ ?_ ?_
      · simp only [List.length_singleton]; omega
      · simp only [List.length_singleton]; omega
      intro t' A2 o2 c2 b2
      refine go ?_
      refine roundQ_n (i + 1, t') ⟨rfl, rfl, rfl, rfl, trivial⟩ ⟨by simp only; omega, ?_, (eA.trans y1).then c2 fun y hy => (hO.blk_ge hy).1⟩ (by simp only; omega)
      rw [dots_succ]
      exact o2
  have hil : ¬ (i : Int) < (ss.length : Int) := hil
  have : i = rows.length := by omega
  subst this
  have hdl := dots_length rows x rows.length
  have mO := OwnR.mine (e := 5) hO
  refine go ?_
  refine RegS.call (new_ok A) ?_
  rintro _ H1 ⟨fb, rfl, hF, e1⟩
  have x1 := eA.trans e1
  refine go ?_
  refine RegS.call (solve_ok fb s t ss rows _ H1 hF (hs.ext x1) (mO.ext e1).bytes (by omega) (by omega)) ?_
  rintro _ H2 ⟨e2, h2⟩
  have x2 := x1.trans e2
  have hsb := slv_back (m := rows) (n := (rows.getD 0 []).length) (b := dots rows x rows.length) (x := fun j => x.getD j 0) fun i hi => by rw [dots_getD hi, hxn]
  have hxl : (slvX rows (rows.getD 0 []).length (dots rows x rows.length)).length = (rows.getD 0 []).length := mk_length _ _
  obtain ⟨h, _⟩ | ⟨_, _, h, _⟩ | ⟨_, _, _, hso, _⟩ | ⟨_, _, _, hso, y, rfl, my⟩ := h2
  · exact absurd ⟨hrc, hdl⟩ h
  · omega
  · exact absurd hsb.1 hso
  refine go ?_
  refine RegS.call (out03 (Ext.refl H2)) ?_
  rintro _ H3 ⟨rfl, e3⟩
  have x3 := x2.trans e3
  have hrk : rankN rows = (rankL rows (rows.getD 0 []).length).length := by rw [rankN, if_pos hrc]
  refine go ?_
  refine RegS.call (new_ok H3) ?_
  rintro _ H4 ⟨fb', rfl, hF', e4⟩
  have x4 := x3.trans e4
  refine go ?_
  refine RegS.call (rank_ok fb' s ss rows H4 hF' (hs.ext x4) (by omega) (by omega)) ?_
  rintro _ H5 ⟨rfl, e5⟩
  have x5 := x4.trans e5
  have hx5 := hr.ext x5
  have hrk2 := (redF_plain rows.length (gM rows) (rows.getD 0 []).length).le
  have hrk3 : (rankL rows (rows.getD 0 []).length).length ≤ rows.length := hrk2
  refine go ?_
  refine RegS.sp (fun hlt => ?_) (fun hlt => ?_) <;> refine go ?_
  · exact ret1 ⟨rfl, x5⟩
  have by5 := (((my.ext e3).ext e4).ext e5).bytes
  refine RegS.call (same_ok r y _ _ H5 hx5 by5) ?_
  rintro _ _ ⟨rfl, rfl⟩
  have heq : x = slvX rows (rows.getD 0 []).length (dots rows x rows.length) := by
    refine ext0 (by omega) fun j hj => hsb.2 (by omega) j (by omega)
  rw [← heq, dec_pos rfl]
  refine go ?_
  exact ret1 ⟨rfl, x5⟩

set_option maxHeartbeats 4000000 in
theorem solveOne_ok (s r q : Sl) (ss : List Sl) (rows : List (List UInt8)) (rhs x : List UInt8) (H : Heap) (hs : BRows H s ss rows) (hr : Bytes H r rhs) (hq : Bytes H q x) (hl : rows.length ≤ 9223372036854775807) (hl2 : rhs.length ≤ 140737488351232) (hl3 : x.length ≤ 140737488351232) : CallsH Try.prog 6 [s.val, r.val, q.val] H (True' H) := by
  refine CallsH.enter h6 Try.func6 rfl rfl rfl (by decide) fun u => go ?_
  refine RegS.call (small_ok s ss rows H hs hl) ?_
  rintro _ _ ⟨rfl, rfl⟩
  have hlen := hs.len
  have hrow := hs.row
  have fin : ∀ A, Ext H A → CallsH Try.prog 24 [] A fun v H' => v = .bool true ∧ Ext H H' := fun A e => out03 e
  by_cases hsm : smallP rows
  case neg =>
    rw [dec_neg hsm]
    refine go ?_
    refine RegS.call (fin H (Ext.refl H)) ?_
    rintro _ H1 ⟨rfl, e1⟩
    refine go ?_
    exact ret1 ⟨rfl, e1⟩
  rw [dec_pos hsm]
  have h0 := smallP_zero hsm
  have h1 := hsm.1
  refine go ?_
  refine RegS.call (rightL_ok s ss rows H hs (by omega)) ?_
  rintro _ _ ⟨rfl, rfl⟩
  by_cases hrc : rect rows
  case neg =>
    rw [dec_neg hrc]
    refine go ?_
    refine RegS.call (fin H (Ext.refl H)) ?_
    rintro _ H1 ⟨rfl, e1⟩
    refine go ?_
    exact ret1 ⟨rfl, e1⟩
  rw [dec_pos hrc]
  refine go ?_
  refine RegS.sp (fun hz => ?_) (fun hz => ?_) <;> refine go ?_
  · refine RegS.call (fin H (Ext.refl H)) ?_
    rintro _ H1 ⟨rfl, e1⟩
    refine go ?_
    exact ret1 ⟨rfl, e1⟩
  refine RegS.sp (fun hz2 => ?_) (fun hz2 => ?_) <;> refine go ?_
  · refine RegS.call (fin H (Ext.refl H)) ?_
    rintro _ H1 ⟨rfl, e1⟩
    refine go ?_
    exact ret1 ⟨rfl, e1⟩
  have hB0 := hs.each 0 (by omega)
  refine go ?_
  refine Wp.br (fun hq2 => ?_) (fun hq2 => ?_) <;> refine go ?_
  · refine RegS.call (fin H (Ext.refl H)) ?_
    rintro _ H1 ⟨rfl, e1⟩
    refine go ?_
    exact ret1 ⟨rfl, e1⟩
  have hxn : x.length = (rows.getD 0 []).length := by omega
  refine RegS.call (new_ok H) ?_
  rintro _ H1 ⟨fb, rfl, hF, e1⟩
  refine go ?_
  refine RegS.call (solve_ok fb s r ss rows rhs H1 hF (hs.ext e1) (hr.ext e1) (by omega) (by omega)) ?_
  rintro _ H2 ⟨e2, h2⟩
  have x2 := e1.trans e2
  have hxl : (slvX rows (rows.getD 0 []).length rhs).length = (rows.getD 0 []).length := mk_length _ _
  have hrk : rankN rows = (rankL rows (rows.getD 0 []).length).length := by rw [rankN, if_pos hrc]
  have hrk2 := (redF_plain rows.length (gM rows) (rows.getD 0 []).length).le
  have hrk3 : (rankL rows (rows.getD 0 []).length).length ≤ rows.length := hrk2
  obtain ⟨h, _⟩ | ⟨_, _, h, _⟩ | ⟨_, _, _, hso, rfl⟩ | ⟨_, _, _, hso, y, rfl, my⟩ := h2
  · exact absurd ⟨hrc, by omega⟩ h
  · omega
  · refine go ?_
    refine RegS.call (fin H2 x2) ?_
    rintro _ H3 ⟨rfl, x3⟩
    refine go ?_
    exact ret1 ⟨rfl, x3⟩
  have hq2' := hq.ext x2
  refine go ?_
  refine RegS.call (rank_ok fb s ss rows H2 (hF.ext e2) (hs.ext x2) (by omega) (by omega)) ?_
  rintro _ H3 ⟨rfl, e3⟩
  have x3 := x2.trans e3
  have hq3 := hq.ext x3
  have hrow3 := hrow.ext x3
  have hs3 := hs.ext x3
  have hr3 := hr.ext x3
  refine go ?_
  refine Wp.br (fun hlt => ?_) (fun hlt => ?_) <;> refine go ?_
  · refine RegS.call (fin H3 x3) ?_
    rintro _ H4 ⟨rfl, x4⟩
    refine go ?_
    exact ret1 ⟨rfl, x4⟩
  refine Wp.loop (ι := Nat) (fun i => [(0, s.val), (1, r.val), (2, q.val), (8, y.val), (10, .bool (dec (∀ k, k < i → dotN (gM rows) (fun j => x.getD j 0) x.length k = rhs.getD k 0))), (11, I64 i)]) (fun i A => i ≤ rows.length ∧ H3 = A) (fun i => rows.length - i) 0 ⟨rfl, rfl, rfl, rfl, ?_, rfl, trivial⟩ ⟨Nat.zero_le _, rfl⟩ ?_
  · rw [dec_pos fun k hk => absurd hk (Nat.not_lt_zero _)]; rfl
  rintro i _ ⟨hi, rfl⟩
  refine go ?_
  refine Wp.br (fun hil => ?_) (fun hil => ?_)
  · have hBi := hs3.each i (by omega)
    have hwi := hrc i (by omega)
    refine go ?_
    refine Wp.loop (ι := Nat) (fun j => [(0, s.val), (1, r.val), (2, q.val), (8, y.val), (10, .bool (dec (∀ k, k < i → dotN (gM rows) (fun j => x.getD j 0) x.length k = rhs.getD k 0))), (11, I64 i), (12, B8 (dotN (gM rows) (fun j => x.getD j 0) j i)), (13, I64 j)]) (fun j A' => j ≤ x.length ∧ H3 = A') (fun j => x.length - j) 0 ⟨rfl, rfl, rfl, rfl, rfl, rfl, rfl, rfl, trivial⟩ ⟨Nat.zero_le _, rfl⟩ ?_
    rintro j _ ⟨hj, rfl⟩
    refine go ?_
    refine Wp.br (fun hjl => ?_) (fun hjl => ?_) <;> refine go ?_
    · refine RegP.call (rmul_ok _ _ H3) ?_
      rintro _ _ ⟨rfl, rfl⟩
      refine ⟨.inl (Ext.refl _), ?_⟩
      refine go ?_
      exact roundQ_n (j + 1) ⟨rfl, rfl, rfl, rfl, rfl, rfl, rfl, rfl, trivial⟩ ⟨by omega, rfl⟩ (by omega)
    · have : j = x.length := by omega
      subst this
      have hst : ∀ b, dec (∀ k, k < i + 1 → dotN (gM rows) (fun j => x.getD j 0) x.length k = rhs.getD k 0) = b → True := fun _ _ => trivial
      refine RegS.sp (fun hall => ?_) (fun hall => ?_) <;> refine go ?_
      · refine roundQ_n (i + 1) ⟨rfl, rfl, rfl, rfl, ?_, rfl, trivial⟩ ⟨by omega, rfl⟩ (by omega)
        rw [show dec (∀ k, k < i + 1 → dotN (gM rows) (fun j => x.getD j 0) x.length k = rhs.getD k 0) = dec (dotN (gM rows) (fun j => x.getD j 0) x.length i = rhs.getD i 0) from dec_congr ⟨fun h => h i (by omega), fun h k hk => by
          by_cases e : k = i
          · subst e; exact h
          · exact hall k (by omega)⟩]
        rfl
      · refine roundQ_n (i + 1) ⟨rfl, rfl, rfl, rfl, ?_, rfl, trivial⟩ ⟨by omega, rfl⟩ (by omega)
        rw [dec_neg (p := ∀ k, k < i + 1 → dotN (gM rows) (fun j => x.getD j 0) x.length k = rhs.getD k 0) fun hh => hall fun k hk => hh k (by omega)]
        rfl
  have : i = rows.length := by omega
  subst this
  refine go ?_
  refine RegS.call (out03 (Ext.refl H3)) ?_
  rintro _ H4 ⟨rfl, e4⟩
  refine go ?_
  refine RegS.call (same_ok y q _ _ H4 ((my.ext e3).ext e4).bytes (hq3.ext e4)) ?_
  rintro _ _ ⟨rfl, rfl⟩
  refine go ?_
  refine ret1 ⟨?_, x3.trans e4⟩
  rw [dec_pos]
  refine dec_congr ⟨fun hsol => ?_, fun heq k hk => ?_⟩
  · have hsb := slv_back (m := rows) (n := (rows.getD 0 []).length) (b := rhs) (x := fun j => x.getD j 0) fun i hi => by rw [← hsol i hi, hxn]
    exact (ext0 (by omega) fun j hj => hsb.2 (by omega) j (by omega)).symm
  · rw [← slv_solves hso k hk, hxn, ← heq]
end Go.Proofs.Ythoabhcaliggoaa
