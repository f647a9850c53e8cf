/-
  The walks of package deal, on: shares of a document.
-/
import Derived.Test.YtgmemfcfjlndoaaGreatVDeal3
set_option linter.unusedVariables false
set_option linter.unusedSimpArgs false
namespace Go.Proofs.YtgmemfcfjlndoaaGreat
open Go Go.Vc Go.Gf

set_option maxHeartbeats 8000000 in
theorem share_ok (fb N T K E R : Nat) (s r : Sl) (data rnd : List UInt8) (H : Heap) (hF : IsField H fb) (hs : Bytes H s data) (hr : Bytes H r rnd) (hd : data.length ≤ 256) (hK : 1 ≤ K) (hT0 : 1 ≤ T) (hT : T ≤ 255) (hNK : N + K ≤ 255) (hl : rnd.length = T * columns data.length K) :
    CallsH Tryz.prog 112 [fieldV fb, pmV N T K E R, s.val, r.val] H fun v H' => ∃ (a : Sl) (ss : List Sl), v = .tuple #[a.val, .bool true] ∧ GMat H' H.size 36 a ss (sharesL N (polysL N T K data rnd)) ∧ Ext H H' := by
  have hcl := columns_le (size := data.length) hK
  have hm : T * columns data.length K ≤ 255 * 256 := Nat.mul_le_mul hT (by omega)
  refine CallsH.enter h112 Tryz.func112 rfl rfl rfl (by decide) fun u => go ?_
  refine RegS.box (fun H1 e1 z1 b1 => ?_)
  have c1 : Box H1 H.size 98 (fieldV fb) := ⟨b1⟩
  refine go ?_
  refine RegS.boxA fun H2 e2 z2 b2 => ?_
  have x02 := e1.trans e2
  have c1 := c1.ext e2
  refine go ?_
  refine RegS.call (splitP_ok s data K H2 (hs.ext x02) (by omega) hK (by omega)) ?_
  rintro _ H3 ⟨t7, ss7, rfl, M7, e3⟩
  have b2 := b2.ext e3
  have c1 := c1.ext e3
  have l7 := M7.len
  rw [splitL_length] at l7
  have x03 := x02.trans e3
  refine go ?_
  refine RegS.alloc (fun H4 e4 z4 b4 => ?_)
  have c4 : Box H4 H3.size 31 Sl.nil.val := ⟨b4⟩
  refine go ?_
  refine RegS.store (v := t7.val) c4.wr ?_
  have c4 : Box (hset H4 ⟨H3.size, 0, none⟩ t7.val) H3.size 31 t7.val := Box.set c4
  have e34 : Ext H3 (hset H4 ⟨H3.size, 0, none⟩ t7.val) := e4.then (hset_chg H4 ⟨H3.size, 0, none⟩ t7.val) fun b hb => by simp at hb; omega
  generalize hset H4 ⟨H3.size, 0, none⟩ t7.val = A4 at c4 e34
  have b2 := b2.ext e34
  have c1 := c1.ext e34
  have M7 := M7.ext e34
  have x04 := x03.trans e34
  have hr4 := hr.ext x04
  have c4c := c4.cell
  have r7 := M7.row
  refine go ?_
  refine RegS.call (need_ok N T K E R ss7.length A4 (by rw [l7]; omega)) ?_
  rintro _ A5 ⟨rfl, e5⟩
  have b2 := b2.ext e5
  have c1 := c1.ext e5
  have c4 := c4.ext e5
  have M7 := M7.ext e5
  have x05 := x04.trans e5
  rw [l7]
  refine go ?_
  refine RegS.call (secrets_ok N T K E R A5 (by omega) (by omega)) ?_
  rintro _ A6 ⟨xs, rfl, mx, e6⟩
  refine go ?_
  refine RegS.alloc (fun H7 e7 z7 b7 => ?_)
  have c7 : Box H7 A6.size 36 Sl.nil.val := ⟨b7⟩
  refine go ?_
  refine RegS.store (v := xs.val) c7.wr ?_
  have c7 : Box (hset H7 ⟨A6.size, 0, none⟩ xs.val) A6.size 36 xs.val := Box.set c7
  have e67 : Ext A6 (hset H7 ⟨A6.size, 0, none⟩ xs.val) := e7.then (hset_chg H7 ⟨A6.size, 0, none⟩ xs.val) fun b hb => by simp at hb; omega
  generalize hset H7 ⟨A6.size, 0, none⟩ xs.val = A7 at c7 e67
  have e57 := e6.trans e67
  have b2 := b2.ext e57
  have c1 := c1.ext e57
  have c4 := c4.ext e57
  have M7 := M7.ext e57
  have mx := mx.ext e67
  have x07 := x05.trans e57
  have c1c := c1.cell
  have c7c := c7.cell
  have hsl := secP_length N K
  refine go ?_
  refine RegS.call (roots_ok fb xs (secP N K) A7 (hF.ext x07) mx.bytes (by omega)) ?_
  rintro _ A8 ⟨zs, rfl, mz, e8⟩
  refine go ?_
  refine RegS.alloc (fun H9 e9 z9 b9 => ?_)
  have c9 : Box H9 A8.size 36 Sl.nil.val := ⟨b9⟩
  refine go ?_
  refine RegS.store (v := zs.val) c9.wr ?_
  have c9 : Box (hset H9 ⟨A8.size, 0, none⟩ zs.val) A8.size 36 zs.val := Box.set c9
  have e89 : Ext A8 (hset H9 ⟨A8.size, 0, none⟩ zs.val) := e9.then (hset_chg H9 ⟨A8.size, 0, none⟩ zs.val) fun b hb => by simp at hb; omega
  generalize hset H9 ⟨A8.size, 0, none⟩ zs.val = A9 at c9 e89
  have e79 := e8.trans e89
  have b2 := b2.ext e79
  have c1 := c1.ext e79
  have c4 := c4.ext e79
  have c7 := c7.ext e79
  have M7 := M7.ext e79
  have mx := mx.ext e79
  have mz := mz.ext e89
  have x09 := x07.trans e79
  refine go ?_
  refine RegS.alloc (fun B0 e10 z10 b10 => ?_)
  have p0 : Box B0 A9.size 31 Sl.nil.val := ⟨b10⟩
  have b2' := b2.ext e10
  have c4' := (c4.ext e10).cell
  have r7' := (M7.ext e10).row
  refine go ?_
  refine RegS.call (pieces_ok N T K E R ss7.length r B0) ?_
  rintro _ B1 ⟨pa, pb, pc, pd, rfl, q1, q2, q3, q4, e11, g1, g2, g3, g4⟩
  rw [l7] at q3
  have l1 := q1.lt
  have l2 := q2.lt
  have l3 := q3.lt
  have l4 := q4.lt
  have e911 := e10.trans e11
  have n9 := e10.size
  have n11 := e11.size
  have nA9 := x09.size
  have lp := p0.lt
  refine go ?_
  refine Wp.rangeW (pieces1_iter N T K E R (columns data.length K) pa pb pc pd r rnd hT (by omega) hl)
    (fun k vs => [(4, fieldV H.size), (5, .pointer (some ⟨H1.size, 0, none⟩)), (10, fieldV H3.size), (11, fieldV A6.size), (12, fieldV A8.size), (13, fieldV A9.size), (14, vs.getD 0 undef), (15, vs.getD 1 undef)])
    (fun k A => Ext A9 A ∧ Chg (fun b => b = A9.size) B1 A ∧ (∃ (a : Sl) (ss : List Sl), Box A A9.size 31 a.val ∧ Mat A (B1.size + 2) 36 a ss ((polysL N T K data rnd).take k)))
    (fun e A => False) ?_ ?_ ?_ ?_ ?_ ?_ ?_ ?_ ?_ ?_
  · rintro k A ⟨i1, i2, i3⟩
    exact ⟨q1.chg i2 (by omega), q2.chg i2 (by omega), q3.chg i2 (by omega), q4.chg i2 (by omega), hr.ext (x09.trans i1)⟩
  · rintro k A A' ⟨i1, i2, ⟨a, ss, i3, i3'⟩⟩ kk
    exact ⟨kk.above i1 (by omega), kk.chg i2 (by omega), ⟨a, ss, i3.keep kk, i3'.keep kk⟩⟩
  · rintro e A A' h; exact h.elim
  · rintro k A A' vs ⟨t, rfl, ht⟩ kk
    exact ⟨t, rfl, ht.keep kk⟩
  · rintro k A vs ⟨t, rfl, ht⟩
    rfl
  · exact ⟨e911, Chg.refl _ _, ⟨Sl.nil, [], p0.ext e11, Mat.nil _ _ _⟩⟩
  · rintro u l k A vs hk _ ⟨t, rfl, ht⟩
    refine go ?_
    exact ⟨rfl, rfl, rfl, rfl, rfl, rfl, rfl, rfl, rfl, rfl, rfl, trivial⟩
  · rintro u l k A vs nA hk ⟨i1, i2, ⟨a, ss, i3, i3'⟩⟩ ⟨p, rfl, hp⟩
    have d1 := (c1.ext i1).cell
    have d4 := (c4.ext i1).cell
    have d7 := (c7.ext i1).cell
    have M7A := M7.ext i1
    have r7A := M7A.row
    have hcol := M7A.bytes (k := k) (by rw [splitL_length]; omega)
    have hcn : ((splitL data K).getD k []).length = K := by rw [splitL_getD hk, mk_length]
    have hml : ss.length = k := by have := i3'.len; rw [List.length_take, polysL_length] at this; omega
    show Wp _ _ _ [(4, fieldV H.size), (5, .pointer (some ⟨H1.size, 0, none⟩)), (10, fieldV H3.size), (11, fieldV A6.size), (12, fieldV A8.size), (13, fieldV A9.size), (14, I64 k), (15, p.val)] _ _
    refine go ?_
    refine RegP.call (through_ok fb xs (ss7.getD k Sl.nil) (secP N K) ((splitL data K).getD k []) A (hF.ext (x09.trans i1)) (mx.ext i1).bytes hcol (by omega) (by omega)) ?_
    rintro _ A1 ⟨y1, hv⟩
    rw [if_pos ⟨by omega, (thrOk_iff _).2 (secP_unlike hNK)⟩, hsl, thrN_eq _ _ _ (by omega)] at hv
    obtain ⟨sq, rfl, mq⟩ := hv
    refine ⟨.inl y1, ?_⟩
    have i3x := (i3.ext y1).cell
    have d1' := (c1.ext (i1.trans y1)).cell
    have d9' := (c9.ext (i1.trans y1)).cell
    have hrol := roots_length (secP N K)
    have hpn : (pieceR rnd T k).length ≤ T := by rw [pieceR, List.length_take]; omega
    have hthr := rthrN_len (xs := secP N K) (ys := (splitL data K).getD k []) K (by omega)
    have htl := tl_le (conv gmul (roots gmul (secP N K)) (pieceR rnd T k))
    rw [conv_length] at htl
    refine go ?_
    refine RegP.call (mulP_ok fb zs p (roots gmul (secP N K)) (pieceR rnd T k) A1 (hF.ext ((x09.trans i1).trans y1)) (mz.ext (i1.trans y1)).bytes (hp.ext y1) (by omega) (by omega)) ?_
    rintro _ A2 ⟨sm, rfl, mm, y2⟩
    refine ⟨.inl y2, ?_⟩
    refine go ?_
    refine RegP.call (add_ok sq sm _ _ A2 (mq.ext y2).bytes mm.bytes (by omega) (by omega)) ?_
    rintro _ A3 ⟨sn, rfl, mn, y3⟩
    refine ⟨.inl y3, ?_⟩
    have y13 := (y1.trans y2).trans y3
    have y12 := (y1.trans y2).size
    have epoly : tl (xadd (rthrN (secP N K) ((splitL data K).getD k []) K) (tl (conv gmul (roots gmul (secP N K)) (pieceR rnd T k)))) = (polysL N T K data rnd).getD k [] := by
      rw [polysL_getD hk, xadd_comm]; rfl
    rw [epoly] at mn
    refine go ?_
    refine RegP.buildSlice fun A5 o5 y5 w5 => ?_
    have r5 : RowF Sl.val Sl.nil A5 (Sl.fresh A3.size 1) [sn] := OwnR.rowF (f := Sl.val) (l := [sn]) o5
    have x5 := y13.trans y5
    have hM5 := i3'.ext x5
    have z5 := x5.size
    refine go ?_
    refine RegP.append (f := Sl.val) hM5.arr r5 (fun _ => rfl) (by omega) ?_ ?_ ?_
    · simp only [List.length_singleton]; omega
    · simp only [List.length_singleton]; omega
    intro t' A6 o6 c6 b6
    have hM6 := Mat.app (S := fun _ => False) hM5 ((mn.ext y5).low (by omega)) (fun j x hj hx hx' => by have := ((i3'.each j hj).blk x hx).2; have := (mn.blk x hx').1; omega) (fun x hx hx' => by have := (i3'.arr.blk_ge hx').2; have := (mn.blk x hx).1; omega) o6 c6 b6
    have hab : ∀ b, a.blk = some b → B1.size + 2 ≤ b := fun b hb => (i3'.arr.blk_ge hb).1
    have j3 : Box A6 A9.size 31 a.val := (i3.ext x5).chg c6 fun h => by have := hab _ h; omega
    refine ⟨.inr Proms.nil, ?_⟩
    refine go ?_
    refine RegP.store (v := t'.val) j3.wr ?_ ?_
    · exact Proms.nil
    have c7' := hset_chg A6 ⟨A9.size, 0, none⟩ t'.val
    have cc' : Chg (fun b => (B1.size + 2 ≤ b ∧ a.blk = some b) ∨ b = A9.size) A (hset A6 ⟨A9.size, 0, none⟩ t'.val) :=
      ((x5.chg _).trans (c6.mono fun b _ hb => .inl ⟨hab b hb, hb⟩)).trans (c7'.mono fun b _ hb => .inr hb)
    refine go ?_
    refine bodyW_n (cc'.pair nA fun b h1 h2 h => by rcases h with ⟨h, _⟩ | h <;> omega) ⟨i1.then cc' fun b hb => by rcases hb with ⟨h, _⟩ | h <;> omega, ?_, ⟨t', ss ++ [sn], Box.set j3, ?_⟩⟩
    · exact ⟨Nat.le_trans i2.size cc'.size, fun b hb hs => (cc'.get b (by have := i2.size; omega) (fun h => by rcases h with ⟨h, _⟩ | h; omega; exact hs h)).trans (i2.get b hb hs)⟩
    · rw [take_snoc [] (by rw [polysL_length]; omega)]
      exact hM6.chg c7' fun b hb _ hb' => by simp at hb'; omega
  · rintro A D hD ⟨i1, i2, ⟨a, ss, i3, i3'⟩⟩ hd
    have d1 := (c1.ext i1).cell
    have d2 := b2.ext i1
    have d3 := i3.cell
    rw [← polysL_length N T K data rnd, List.take_length] at i3'
    have hPd : ∀ c, c < (polysL N T K data rnd).length → ((polysL N T K data rnd).getD c []).length ≤ 1000 := fun c hc => by
      rw [polysL_length] at hc
      rw [← polysL_tl hc, tl_length]
      have := polysL_deg (N := N) (T := T) (K := K) (data := data) (rnd := rnd) (c := c) hc hT0
      omega
    refine go ?_
    refine RegS.call (shares_ok fb N T K E R a ss (polysL N T K data rnd) A (hF.ext (x09.trans i1)) i3'.brows (by omega) (by rw [polysL_length]; omega) hPd) ?_
    rintro _ A' ⟨sa, sss, rfl, RR, y1⟩
    have hd' := y1.blk hd
    refine go ?_
    have kk := Keep.shut (B := B1.size) hD hd'
    have nA := (x09.trans i1).size
    refine ret2d hd' ⟨sa, sss, rfl, ?_, kk.above ((x09.trans i1).trans y1) (by omega)⟩
    have cput := put_chg A' D (.deferred none)
    have hDlt : D < A.size := (Array.getElem?_eq_some_iff.1 hd).1
    exact (RR.chg cput fun b hb _ hb' => by omega).low (by omega)
  · rintro e A D hD h; exact h.elim
end Go.Proofs.YtgmemfcfjlndoaaGreat
