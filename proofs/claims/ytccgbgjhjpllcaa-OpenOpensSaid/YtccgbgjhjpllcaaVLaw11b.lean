/-
  The laws of layer 11, walked: what is found; documents and shares.
-/
import Derived.Test.YtccgbgjhjpllcaaVLaw11
import Derived.Test.YtccgbgjhjpllcaaVRef11b
set_option linter.unusedVariables false
set_option linter.unusedSimpArgs false
namespace Go.Proofs.Ytccgbgjhjpllcaa
open Go Go.Vc Go.Gf

theorem open_bad (f : Value) (N T K E R size : Int) (s r : Sl) (H : Heap) (hb : size < 0 ∨ 256 < size) : CallsH Try.prog 31 [f, pmI N T K E R, IV size, s.val, r.val] H fun v H' => v = .tuple #[Sl.nil.val, Sl.nil.val, .bool false] ∧ Ext H H' := by
  refine CallsH.enter h31 Try.func31 rfl rfl rfl (by decide) fun u => go ?_
  refine RegS.boxA fun H0 x0 z0 b0 => ?_
  refine go ?_
  refine RegS.sp (fun h => ?_) (fun h => ?_) <;> refine go ?_
  · exact ret3 ⟨rfl, x0⟩
  · exact ret3 ⟨rfl, x0⟩
def AtR (H : Heap) (N T K E : Nat) (cols : Int) (fl : List Int) (rows : List (List UInt8)) (target : Int) (v : Value) (H' : Heap) : Prop :=
  Ext H H' ∧ ((∃ (hs : List Nat) (qs : List (List UInt8)) (a : Sl), isFound N T K E cols fl rows hs qs ∧ 0 ≤ target ∧ target < N ∧ v = .tuple #[a.val, .bool true] ∧ Mine H' H.size a (shareL qs target.toNat)) ∨
    (((∀ hs qs, ¬ isFound N T K E cols fl rows hs qs) ∨ ¬ (0 ≤ target ∧ target < N)) ∧ v = .tuple #[Sl.nil.val, .bool false]))
theorem vals_one (q : List UInt8) (h : Nat) : vals q (ptsN [h]) = [hor (UInt8.ofNat (h + 1)) q] := rfl
set_option maxHeartbeats 4000000 in
theorem openAt_ok (fb N T K E R : Nat) (cols target : Int) (s r : Sl) (rs : List Sl) (fl : List Int) (rows : List (List UInt8)) (H : Heap) (hF : IsField H fb) (hs : RowF IV 0 H s fl) (hr : BRows H r rs rows)
    (hl : fl.length ≤ 9223372036854775807) (hl2 : rows.length ≤ 9223372036854775807) (hT0 : 1 ≤ T) (hT : T ≤ 255) (hK : K ≤ 255) (hE : E ≤ 255) (hN : N ≤ 255) (hc : cols ≤ 1000) (hd : T + K ≤ 256) :
    CallsH Try.prog 32 [fieldV fb, pmV N T K E R, IV cols, s.val, r.val, IV target] H (AtR H N T K E cols fl rows target) := by
  refine CallsH.enter h32 Try.func32 rfl rfl rfl (by decide) fun u => go ?_
  refine RegS.boxA fun H0 x0 z0 b0 => ?_
  have hs0 := hs.ext x0
  have hr0 := hr.ext x0
  have hF0 := hF.ext x0
  refine go ?_
  refine RegS.call (find_ok fb N T K E R cols s r rs fl rows H0 hF0 hs0 hr0 hl hl2 hT0 hT hK hE hN (by omega) hd) ?_
  rintro _ H1 ⟨x1, hf⟩
  have x01 := x0.trans x1
  have b1 := b0.ext x1
  obtain ⟨hs', qs, a, w, ss, hfd, rfl, hS⟩ | ⟨hno, rfl⟩ := hf
  case inr =>
    refine go ?_
    exact ret2 ⟨x01, .inr ⟨.inl hno, rfl⟩⟩
  refine go ?_
  refine RegS.sp (fun h1 => ?_) (fun h1 => ?_) <;> refine go ?_
  · exact ret2 ⟨x01, .inr ⟨.inr (by omega), rfl⟩⟩
  refine Wp.br (fun h2 => ?_) (fun h2 => ?_) <;> refine go ?_
  · exact ret2 ⟨x01, .inr ⟨.inr (by omega), rfl⟩⟩
  obtain ⟨h, rfl⟩ := Int.eq_ofNat_of_zero_le (show 0 ≤ target by omega)
  have hcn := hfd.2.2.1.2.2.1
  obtain ⟨n, rfl⟩ := Int.eq_ofNat_of_zero_le hcn
  have hfo := hfd.2.2.2
  have hql : qs.length = n := by have := hfo.len; simpa using this
  have hqn : ∀ c, c < qs.length → (qs.getD c []).length ≤ 256 := fun c hc => by
    obtain ⟨_, _, _, _, _, _, _, h1, h2, _⟩ := hfo.good c (by simp; omega)
    rw [← h1, tl_length]; omega
  have hF1 := hF.ext x01
  have z1 := x01.size
  have hrowS := hS.mat.row
  have hssl : ss.length = qs.length := hS.mat.len
  refine RegS.makeRoom (n := n) ?_ ?_ fun H2 o2 e2 z2 => ?_
  · omega
  · omega
  have hS2 := hS.ext e2
  have hrow2 := hS2.mat.row
  have b2 := b1.ext e2
  refine go ?_
  refine Wp.loop (ι := Nat × Sl) (fun i => [(0, fieldV fb), (5, I64 h), (7, .pointer (some ⟨H.size, 0, none⟩)), (17, i.2.val), (44, a.val), (45, I64 ss.length), (46, I64 i.1)])
    (fun i A => i.1 ≤ qs.length ∧ Ext H1 A ∧ OwnF B8 A H1.size 5 i.2 (shareL (qs.take i.1) h)) (fun i => qs.length - i.1) (0, Sl.room H1.size n) subs ⟨Nat.zero_le _, e2, o2⟩ ?_
  rintro ⟨i, t⟩ A ⟨hi, eA, hM⟩
  have hi : i ≤ qs.length := hi
  have hM : OwnF B8 A H1.size 5 t (shareL (qs.take i) h) := hM
  have bA := b1.ext eA
  have hSA := hS.ext eA
  have hrowA := hSA.mat.row
  have zA := eA.size
  have hpl : (shareL (qs.take i) h).length = i := by rw [shareL_length, List.length_take]; omega
  show Wp _ _ _ [(0, fieldV fb), (5, I64 h), (7, .pointer (some ⟨H.size, 0, none⟩)), (17, t.val), (44, a.val), (45, I64 ss.length), (46, I64 i)] _ _
  refine go ?_
  refine Wp.br (fun hlt => ?_) (fun hlt => ?_)
  case refine_2 =>
    have hlt : ¬ (i : Int) < (ss.length : Int) := hlt
    have : i = qs.length := by omega
    subst this
    rw [List.take_length] at hM
    refine go ?_
    refine ret2 ⟨x01.trans eA, .inl ⟨hs', qs, t, hfd, by omega, by omega, rfl, ?_⟩⟩
    rw [Int.toNat_natCast]
    exact (OwnR.mine hM).low (by omega)
  have hlt : (i : Int) < (ss.length : Int) := hlt
  have hq := hqn i (by omega)
  refine go ?_
  refine RegS.buildSlice fun A1 o1 y1 w1 => ?_
  have r1 : RowF I64 0 A1 (Sl.fresh A.size 1) [h] := OwnR.rowF (f := I64) (l := [h]) o1
  refine go ?_
  refine RegS.call (points_ok N T K E R _ [h] A1 r1 (by simp)) ?_
  rintro _ A2 ⟨sx, rfl, mx, y2⟩
  refine go ?_
  refine RegS.call (encode_ok fb (ss.getD i Sl.nil) sx (qs.getD i []) (ptsN [h]) A2 (hF1.ext ((eA.trans y1).trans y2)) (((hSA.mat.each i (by omega)).ext y1).ext y2).bytes mx.bytes (by omega) (by simp [ptsN])) ?_
  rintro _ A3 ⟨sv, rfl, mv, y3⟩
  rw [vals_one] at mv
  have y13 := (y1.trans y2).trans y3
  have z3 := y13.size
  refine go ?_
  refine RegS.append (f := B8) (hM.ext y13) mv.bytes (fun _ => rfl) (by omega) ?_ ?_ ?_
  · simp only [List.length_singleton]; omega
  · simp only [List.length_singleton]; omega
  intro t' A4 o4 c4 b4
  refine go ?_
  refine roundQ_n (i + 1, t') subs ⟨by simp only; omega, (eA.trans y13).then c4 fun x hx => (hM.blk_ge hx).1, ?_⟩ (by simp only; omega)
  show OwnF B8 _ _ _ _ (shareL (qs.take (i + 1)) h)
  rw [take_snoc [] (by omega), shareL, List.map_append]
  exact o4
set_option maxHeartbeats 4000000 in
theorem openFinds_ok (N T K E R : Int) (s r : Sl) (rs : List Sl) (fl : List Int) (rows : List (List UInt8)) (cols : UInt8) (H : Heap) (hs : RowF IV 0 H s fl) (hr : BRows H r rs rows) (hl : fl.length * 8 ≤ 140737488351232) (hl2 : rows.length * 24 ≤ 140737488351232)
    (hp : ∀ x ∈ [N, T, K, E, R], -9223372036854775808 ≤ x ∧ x ≤ 9223372036854775807) : CallsH Try.prog 4 [pmI N T K E R, B8 cols, s.val, r.val] H (Fine H) := by
  refine CallsH.enter h4 Try.func4 rfl rfl rfl (by decide) fun u => go ?_
  refine RegS.boxA fun H0 x0 z0 b0 => ?_
  have hcm : (cols % 4).toNat < 4 := by
    have := UInt8.toNat_mod cols 4
    have h8 : (4 : UInt8).toNat = 4 := rfl
    rw [this, h8]; omega
  refine go ?_
  generalize (cols % 4).toNat = n at hcm ⊢
  refine RegS.call (good11_ok N T K E R s fl H0 (hs.ext x0)) ?_
  rintro _ H1 ⟨rfl, x1⟩
  have b1 := b0.ext x1
  have x01 := x0.trans x1
  have hs1 := hs.ext x01
  have hr1 := hr.ext x01
  by_cases hg : GoodP N T K E R ∧ fl.length ≤ 9 ∧ N ≤ 30
  case neg =>
    rw [dec_neg hg]
    refine go ?_
    refine RegS.call (out11 x01) ?_
    rintro _ H3 ⟨rfl, e3⟩
    refine go ?_
    exact ret1 ⟨rfl, e3⟩
  rw [dec_pos hg]
  obtain ⟨⟨g1, g2, g3, g4, g5, g6, g7⟩, g8, g9⟩ := hg
  have q0 := g1 0 (by omega)
  have q1 := g1 1 (by omega)
  have q2 := g1 2 (by omega)
  have q3 := g1 3 (by omega)
  simp only [List.getD_cons_zero, List.getD_cons_succ] at q0 q1 q2 q3
  obtain ⟨N, rfl⟩ := Int.eq_ofNat_of_zero_le q0.1
  obtain ⟨T, rfl⟩ := Int.eq_ofNat_of_zero_le q1.1
  obtain ⟨K, rfl⟩ := Int.eq_ofNat_of_zero_le q2.1
  obtain ⟨E, rfl⟩ := Int.eq_ofNat_of_zero_le q3.1
  obtain ⟨R, rfl⟩ := Int.eq_ofNat_of_zero_le (show 0 ≤ R by omega)
  clear g1 hp
  refine go ?_
  refine RegP.call (new_ok H1) ?_
  rintro _ H2 ⟨fb, rfl, hF, x2⟩
  refine ⟨.inl x2, ?_⟩
  have b2 := b1.ext x2
  have hs2 := hs1.ext x2
  have hr2 := hr1.ext x2
  refine go ?_
  refine RegP.call (find_ok fb N T K E R (n : Int) s r rs fl rows H2 hF hs2 hr2 (by omega) (by omega) (by omega) (by omega) (by omega) (by omega) (by omega) (by omega) (by omega)) ?_
  rintro _ H3 ⟨x3, hv1⟩
  refine ⟨.inl x3, ?_⟩
  have b3 := b2.ext x3
  have x03 := (x01.trans x2).trans x3
  have rf := rfind_ok N T K E R (n : Int) s r rs fl rows H3 (hs2.ext x3) (hr2.ext x3) g8 (by omega) (by omega) (by omega) (by omega) (by omega) (by omega) (by omega)
  obtain ⟨hs', qs, a, w, ss, f1, rfl, hS⟩ | ⟨hno, rfl⟩ := hv1
  · refine go ?_
    refine RegS.call rf ?_
    rintro _ H4 ⟨x4, ⟨hs2', qs2, a2, w2, ss2, f2, rfl, br2, rw2⟩ | ⟨hno, rfl⟩⟩
    case inr => exact absurd f1 (hno _ _)
    obtain ⟨rfl, rfl⟩ := f2.one f1
    have hS4 := hS.ext x4
    have hol := offs_len N hs2' rows qs2
    have hql : qs2.length = n := by have := f2.2.2.2.len; simpa using this
    refine go ?_
    refine RegS.call (out11 (Ext.refl H4)) ?_
    rintro _ H5 ⟨rfl, x5⟩
    have hS5 := hS4.ext x5
    refine go ?_
    repeat (refine RegS.sp (fun _ => ?_) (fun h => absurd rfl h); refine go ?_)
    refine RegS.call (same11_ok a a2 ss ss2 _ _ H5 hS5.mat.brows (br2.ext x5) (by omega)) ?_
    rintro _ _ ⟨rfl, rfl⟩
    rw [dec_pos rfl]
    refine go ?_
    refine RegS.call (sameInts_ok w w2 _ _ H5 hS5.wr.rowF (rw2.ext x5) (by omega)) ?_
    rintro _ _ ⟨rfl, rfl⟩
    rw [dec_pos rfl]
    refine go ?_
    exact ret1 ⟨rfl, (x03.trans x4).trans x5⟩
  · refine go ?_
    refine RegS.call rf ?_
    rintro _ H4 ⟨x4, ⟨hs2', qs2, a2, w2, ss2, f2, rfl, br2, rw2⟩ | ⟨_, rfl⟩⟩
    · exact absurd f2 (hno _ _)
    refine go ?_
    refine RegS.call (out11 (Ext.refl H4)) ?_
    rintro _ H5 ⟨rfl, x5⟩
    have nb : BRows H5 Sl.nil [] [] := ⟨RowF.nil _, rfl, fun k hk => absurd hk (by simp)⟩
    refine go ?_
    repeat (refine RegS.sp (fun _ => ?_) (fun h => absurd rfl h); refine go ?_)
    refine RegS.call (same11_ok Sl.nil Sl.nil [] [] _ _ H5 nb nb (by simp)) ?_
    rintro _ _ ⟨rfl, rfl⟩
    rw [dec_pos rfl]
    refine go ?_
    refine RegS.call (sameInts_ok Sl.nil Sl.nil [] [] H5 (RowF.nil _) (RowF.nil _) (by simp)) ?_
    rintro _ _ ⟨rfl, rfl⟩
    rw [dec_pos rfl]
    refine go ?_
    exact ret1 ⟨rfl, (x03.trans x4).trans x5⟩
end Go.Proofs.Ytccgbgjhjpllcaa
