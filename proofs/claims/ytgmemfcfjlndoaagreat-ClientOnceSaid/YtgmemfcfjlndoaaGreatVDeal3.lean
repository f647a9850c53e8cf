/-
  The walks of package deal, on: shares of polynomials, shares of a document.
-/
import Derived.Test.YtgmemfcfjlndoaaGreatVDeal2
set_option linter.unusedVariables false
set_option linter.unusedSimpArgs false
namespace Go.Proofs.YtgmemfcfjlndoaaGreat
open Go Go.Vc Go.Gf

theorem range_getD {N h : Nat} (hh : h < N) : (List.range N).getD h 0 = h := by simp [List.getD_eq_getElem?_getD, hh]
set_option maxHeartbeats 4000000 in
theorem shares_ok (fb N T K E R : Nat) (s : Sl) (ss0 : List Sl) (qs : List (List UInt8)) (H : Heap) (hF : IsField H fb) (hs : BRows H s ss0 qs) (hN : N ≤ 255) (hl : qs.length ≤ 1000) (hq : ∀ k, k < qs.length → (qs.getD k []).length ≤ 1000) :
    CallsH Tryz.prog 175 [fieldV fb, pmV N T K E R, s.val] H fun v H' => ∃ (a : Sl) (ss : List Sl), v = a.val ∧ GMat H' H.size 36 a ss (sharesL N qs) ∧ Ext H H' := by
  refine CallsH.enter h175 Tryz.func175 rfl rfl rfl (by decide) fun u => go ?_
  refine RegS.boxA fun H0 x0 z0 b0 => ?_
  have hs0 := hs.ext x0
  have h0l := hs.len
  refine go ?_
  refine RegS.makeSlice (n := N) ?_ ?_ fun H1 o1 e1 z1 => ?_
  · omega
  · omega
  have o1' : OwnF Sl.val H1 H0.size 36 (Sl.fresh H0.size N) (List.replicate N Sl.nil) := by
    rw [OwnF, List.map_replicate]; exact o1
  have hrep : ∀ j, (List.replicate N Sl.nil).getD j Sl.nil = Sl.nil := fun j => by
    simp only [List.getD_eq_getElem?_getD, List.getElem?_replicate]; split <;> rfl
  generalize Sl.fresh H0.size N = t at o1'
  have htb := fun b (hb : t.blk = some b) => (OwnR.blk_ge o1' hb).2
  have b1 := b0.ext e1
  have x01 := x0.trans e1
  have zz0 := x0.size
  refine go ?_
  refine RegP.call (all_ok N T K E R H1 hN) ?_
  rintro _ H2 ⟨sa, rfl, oa, x2⟩
  refine ⟨.inl x2, ?_⟩
  have b2 := b1.ext x2
  refine go ?_
  refine RegP.call (points_ok N T K E R sa (List.range N) H2 oa.rowF (by simp; omega)) ?_
  rintro _ H3 ⟨xs, rfl, mx, x3⟩
  refine ⟨.inl x3, ?_⟩
  have x13 := x2.trans x3
  have nz : ∀ b, Sl.nil.blk ≠ some b := fun b h => by simp [Sl.blk, Sl.nil] at h
  have G3 : GMat H3 H0.size 36 t (List.replicate N Sl.nil) (growTo N qs 0 0) := by
    refine ⟨o1'.ext x13, by simp [growTo], fun k hk => ?_, fun i j hi hj hne b hb => ?_, fun k hk b hb => ?_⟩
    · rw [growTo_length] at hk
      rw [hrep, growTo_getD hk, if_neg (by omega)]; exact OwnR.nil _ _ _ _
    · rw [hrep] at hb; exact absurd hb (nz b)
    · rw [hrep] at hb; exact absurd hb (nz b)
  have z2 := x2.size
  have S3 : SepM H3 t (List.replicate N Sl.nil) xs := fun b hb => ⟨(mx.blk b hb).2, fun h => by have := (mx.blk b hb).1; have := htb b h; omega, fun k => by rw [hrep]; exact nz b⟩
  have e03 := e1.trans x13
  have s3row := (hs0.ext e03).row
  refine go ?_
  refine Wp.loop (ι := Nat × List Sl) (fun i => [(0, fieldV fb), (7, t.val), (8, xs.val), (20, s.val), (21, I64 ss0.length), (22, I64 i.1)])
    (fun i A => i.1 ≤ qs.length ∧ GMat A H0.size 36 t i.2 (growTo N qs i.1 0) ∧ SepM A t i.2 xs ∧ Bytes A xs (ptsN (List.range N)) ∧ Ext H0 A) (fun i => qs.length - i.1) (0, List.replicate N Sl.nil) subs ⟨Nat.zero_le _, G3, S3, mx.bytes, e03⟩ ?_
  rintro ⟨c, ss⟩ A ⟨hc, hG, hS, hX, eA⟩
  have hc : c ≤ qs.length := hc
  have hG : GMat A H0.size 36 t ss (growTo N qs c 0) := hG
  have hS : SepM A t ss xs := hS
  have sA := hs0.ext eA
  have sArow := sA.row
  have zA := eA.size
  show Wp _ _ _ [(0, fieldV fb), (7, t.val), (8, xs.val), (20, s.val), (21, I64 ss0.length), (22, I64 c)] _ _
  refine go ?_
  refine Wp.br (fun hlt => ?_) (fun hlt => ?_)
  case refine_2 =>
    have hlt : ¬ (c : Int) < (ss0.length : Int) := hlt
    have : c = qs.length := by omega
    subst this
    rw [growTo_all] at hG
    refine go ?_
    exact ret1 ⟨t, ss, rfl, hG.low (by omega), x0.trans eA⟩
  have hlt : (c : Int) < (ss0.length : Int) := hlt
  have hqc := hq c (by omega)
  have hb := sA.each c (by omega)
  refine go ?_
  refine RegS.call (encode_ok fb (ss0.getD c Sl.nil) xs (qs.getD c []) (ptsN (List.range N)) A (hF.ext (x0.trans eA)) hb hX (by omega) (by rw [ptsN_length, List.length_range]; omega)) ?_
  rintro _ A1 ⟨en, rfl, me, y1⟩
  have hvl : (vals (qs.getD c []) (ptsN (List.range N))).length = N := by rw [vals_length, ptsN_length, List.length_range]
  have hbe := me.bytes
  have hsl := hG.len
  rw [growTo_length] at hsl
  have S1 : SepM A1 t ss en := fun b hb => ⟨(me.blk b hb).2, fun h => by have := (me.blk b hb).1; have := (hG.arr.blk_ge h).2; omega, fun k h => by
    have h1 := (me.blk b hb).1
    by_cases hk : k < N
    · have := ((hG.each k (by rw [growTo_length]; exact hk)).blk_ge h).2; omega
    · rw [show ss.getD k Sl.nil = Sl.nil by simp [List.getD_eq_getElem?_getD, List.getElem?_eq_none (show ss.length ≤ k by omega)]] at h
      exact nz b h⟩
  refine go ?_
  refine Wp.loop (ι := Nat × List Sl) (fun i => [(0, fieldV fb), (7, t.val), (8, xs.val), (20, s.val), (21, I64 ss0.length), (22, I64 c), (29, en.val), (30, I64 N), (31, I64 i.1)])
    (fun i B => i.1 ≤ N ∧ GMat B H0.size 36 t i.2 (growTo N qs c i.1) ∧ SepM B t i.2 xs ∧ Bytes B xs (ptsN (List.range N)) ∧ SepM B t i.2 en ∧ Bytes B en (vals (qs.getD c []) (ptsN (List.range N))) ∧ Ext H0 B) (fun i => N - i.1) (0, ss)
    ⟨rfl, rfl, rfl, rfl, rfl, rfl, rfl, get_int rfl (by simp only [hvl]), rfl, trivial⟩ ⟨Nat.zero_le _, hG.ext y1, hS.ext y1, hX.ext y1, S1, hbe, eA.trans y1⟩ ?_
  rintro ⟨h, ss'⟩ B ⟨hh, hG', hSx, hX', hSe, hE', eB⟩
  have hh : h ≤ N := hh
  have hG' : GMat B H0.size 36 t ss' (growTo N qs c h) := hG'
  have hSx : SepM B t ss' xs := hSx
  have hSe : SepM B t ss' en := hSe
  have rT := hG'.brows.row
  have hsl' := hG'.len
  rw [growTo_length] at hsl'
  have zB := eB.size
  show Wp _ _ _ [(0, fieldV fb), (7, t.val), (8, xs.val), (20, s.val), (21, I64 ss0.length), (22, I64 c), (29, en.val), (30, I64 N), (31, I64 h)] _ _
  refine go ?_
  refine Wp.br (fun hlt2 => ?_) (fun hlt2 => ?_)
  case refine_2 =>
    have hlt2 : ¬ (h : Int) < (N : Int) := hlt2
    have : h = N := by omega
    subst this
    rw [growTo_end] at hG'
    refine go ?_
    exact roundQ_n (c + 1, ss') subs ⟨by simp only; omega, hG', hSx, hX', eB⟩ (by simp only; omega)
  have hlt2 : (h : Int) < (N : Int) := hlt2
  have hrow := hG'.each h (by rw [growTo_length]; omega)
  rw [growTo_getD (by omega), if_neg (by omega)] at hrow
  have hrl : (shareL (qs.take c) h).length = c := by rw [shareL_length, List.length_take]; omega
  have hy : (vals (qs.getD c []) (ptsN (List.range N))).getD h 0 = hor (UInt8.ofNat (h + 1)) (qs.getD c []) := by
    rw [getD_vals (by rw [ptsN_length, List.length_range]; omega), ptsN_getD (by rw [List.length_range]; omega), range_getD (by omega)]
  refine go ?_
  refine RegS.buildSlice fun B1 o1 y1 w1 => ?_
  have m1 : Mine B1 B.size (Sl.fresh B.size 1) [(vals (qs.getD c []) (ptsN (List.range N))).getD h 0] := OwnR.mine (e := 5) o1
  have hG1 := hG'.ext y1
  have zB1 := y1.size
  refine go ?_
  refine RegS.append (f := B8) (hrow.ext y1) m1.bytes (fun _ => rfl) (by omega) ?_ ?_ ?_
  · simp only [List.length_singleton]; omega
  · simp only [List.length_singleton]; omega
  intro s' B2 o2 c2 b2
  rw [hy] at o2
  obtain ⟨g1, arr1, c3⟩ := hG1.grow (i := h) (by rw [growTo_length]; omega) o2 c2 b2
  have rT2 := OwnR.rowF (f := Sl.val) (dd := Sl.nil) arr1
  refine go ?_
  refine RegS.store (OwnF.wrd (d := Sl.nil) arr1 (j := h) (by omega)) ?_
  have ct := (OwnR.set arr1 (j := h) (by rw [List.length_map]; omega) s'.val).2
  obtain ⟨q1, q2⟩ := (hSx.ext y1).grow (hX'.ext y1) (i := h) (by omega) c2 b2 ct
  obtain ⟨q3, q4⟩ := (hSe.ext y1).grow (hE'.ext y1) (i := h) (by omega) c2 b2 ct
  rw [growTo_succ (by omega) (by omega)] at g1
  refine go ?_
  exact roundQ_n (h + 1, ss'.set h s') subs ⟨by simp only; omega, g1, q1, q2, q3, q4, (eB.trans y1).then c3 fun b hb => hb⟩ (by simp only; omega)
end Go.Proofs.YtgmemfcfjlndoaaGreat
