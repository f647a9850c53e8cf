/-
  The laws of layer 20, walked: which share each holder is sent.
-/
import Derived.Test.YtccgbgjhjpllcaaVLaw20
set_option linter.unusedVariables false
set_option linter.unusedSimpArgs false
namespace Go.Proofs.Ytccgbgjhjpllcaa
open Go Go.Vc Go.Gf

theorem out20 {H A : Heap} (x : Ext H A) : CallsH Try.prog 10 [] A fun v H' => v = .bool true ∧ Ext H H' :=
  (answers20_ok A).mono fun v H' h => ⟨h.1, x.trans h.2⟩
theorem Bytes.notBlk {H : Heap} {s : Sl} {l : List UInt8} {b : Nat} {T : TypeId} {cs : List Value} (h : Bytes H s l) (k : Blk H b T cs) (hv : ∀ v ∈ cs, ∀ x, v ≠ B8 x) : 0 < s.len → ∀ c, s.blk = some c → c < H.size ∧ ¬ c = b := fun hp c hc => by
  refine ⟨RowF.lt h hp c hc, fun e => ?_⟩
  subst e
  have h0 := h.cell 0 (by have := h.len; omega)
  have hb := Sl.cell_blk (j := 0) hc
  unfold hcell at h0
  rw [hb, k.at_] at h0
  simp only at h0
  split at h0
  · exact absurd h0 (by simp)
  · have hm := List.mem_of_getElem? (by simpa using h0)
    exact hv _ hm _ rfl
theorem MsgIn.chg {S : Nat → Prop} {H0 H H' : Heap} {m : MsgA} {s : MsgS} (h : MsgIn H0 m s) (x : Ext H0 H) (c : Chg S H H') (hs : ∀ b, b < H0.size → ¬ S b) : MsgIn H' m s :=
  ⟨(h.hd.ext x).chgN c fun hp b hb => hs b (h.hd.lt hp b hb),
   RowF.chgN (RowF.ext h.de x) c fun hp b hb => ⟨RowF.lt (RowF.ext h.de x) hp b hb, hs b (RowF.lt h.de hp b hb)⟩,
   RowF.chgN (RowF.ext h.pa x) c fun hp b hb => ⟨RowF.lt (RowF.ext h.pa x) hp b hb, hs b (RowF.lt h.pa hp b hb)⟩,
   RowF.chgN (RowF.ext h.da x) c fun hp b hb => ⟨RowF.lt (RowF.ext h.da x) hp b hb, hs b (RowF.lt h.da hp b hb)⟩⟩
theorem msgC_noB (m : MsgA) (s : MsgS) : ∀ v ∈ msgC m s, ∀ x, v ≠ B8 x := by
  intro v hv x e
  subst e
  simp [msgC, B8, S, Sl.val] at hv
theorem stagedFit {m : MsgA} {l : List UInt8} (h : MsgFit m) (hl : l.length ≤ 2000000) : MsgFit (stagedA m l) := ⟨h.hl, h.hw, h.hx, h.id, h.de, h.pa, hl⟩
theorem stageP_zero {N : Nat} {dealt : Sl} {m : MsgA} : ¬ stageP N 0 dealt m := fun h => h.2.1 h.2.2.1
set_option maxHeartbeats 16000000 in
theorem clientDeals_ok (N T K E R : Int) (sd sb : Sl) (ms : MsgS) (data bytes : List UInt8) (ses : Int) (m : MsgA) (H : Heap) (hd : Bytes H sd data) (hb : Bytes H sb bytes) (hm : MsgIn H m ms) (hf : MsgFit m) (hdl : data.length ≤ 2000000) (hbl : bytes.length ≤ 2000000) :
    CallsH Try.prog 3 [pmI N T K E R, IV ses, sd.val, sb.val, .agg (msgC m ms).toArray] H (Fine20 H) := by
  refine CallsH.enter h3 Try.func3 rfl rfl rfl (by decide) fun u => go ?_
  refine RegS.boxA fun H1 x1 z1 b1 => ?_
  refine go ?_
  refine RegS.boxA fun H2 x2 z2 b2 => ?_
  have b2 : Blk H2 H1.size 29 (msgC m ms) := b2
  have b1 := b1.ext x2
  have x02 := x1.trans x2
  refine go ?_
  refine RegS.call (good_ok N T K E R H2) ?_
  rintro _ H3 ⟨rfl, x3⟩
  have p3 := b1.ext x3
  have q3 := b2.ext x3
  have x03 := x02.trans x3
  have hd3 := hd.ext x03
  have hb3 := hb.ext x03
  by_cases hg : GoodP N T K E R
  case neg =>
    rw [dec_neg hg]
    refine go ?_
    refine RegS.call (out20 x03) ?_
    rintro _ H3 ⟨rfl, e3⟩
    refine go ?_
    exact ret1 ⟨rfl, e3⟩
  rw [dec_pos hg]
  obtain ⟨g1, g2, g3, g4, g5, g6, g7⟩ := hg
  have q0 := g1 0 (by omega)
  have q1 := g1 1 (by omega)
  have q2 := g1 2 (by omega)
  have q3' := g1 3 (by omega)
  simp only [List.getD_cons_zero, List.getD_cons_succ] at q0 q1 q2 q3'
  obtain ⟨N, rfl⟩ := Int.eq_ofNat_of_zero_le q0.1
  obtain ⟨T, rfl⟩ := Int.eq_ofNat_of_zero_le q1.1
  obtain ⟨K, rfl⟩ := Int.eq_ofNat_of_zero_le q2.1
  obtain ⟨E, rfl⟩ := Int.eq_ofNat_of_zero_le q3'.1
  obtain ⟨R, rfl⟩ := Int.eq_ofNat_of_zero_le (show 0 ≤ R by omega)
  clear g1
  have hcl := columns_le (size := data.length) (K := K) (by omega)
  have hmul : T * columns data.length K ≤ 255 * 2000000 := Nat.mul_le_mul (by omega) (by omega)
  refine go ?_
  refine RegS.sp (fun h1 => ?_) (fun h1 => ?_) <;> refine go ?_
  · refine RegS.call (out20 x03) ?_
    rintro _ H3 ⟨rfl, e3⟩
    refine go ?_
    exact ret1 ⟨rfl, e3⟩
  refine RegS.sp (fun h2 => ?_) (fun h2 => ?_) <;> refine go ?_
  · refine RegS.call (out20 x03) ?_
    rintro _ H3 ⟨rfl, e3⟩
    refine go ?_
    exact ret1 ⟨rfl, e3⟩
  have sH := x02.size
  have s3 := x03.size
  refine RegS.sp (fun h3 => ?_) (fun h3 => ?_)
  · refine go ?_
    refine Wp.br (fun h4 => ?_) (fun h4 => ?_)
    · refine go ?_
      refine RegS.call (out20 x03) ?_
      rintro _ H3 ⟨rfl, e3⟩
      refine go ?_
      exact ret1 ⟨rfl, e3⟩
    refine go ?_
    refine RegS.call (clientNew_ok N T K E R H3) ?_
    rintro _ H4 ⟨cb, fb, tb, rfl, hF, bt, bc, x4, g1, g2, g3⟩
    have lcb := bc.lt
    have p4 := p3.ext x4
    have q4 := q3.ext x4
    have x04 := x03.trans x4
    have s04 := x03.size
    have hb4 := hb.ext x04
    refine go ?_
    refine RegS.call (tape_ok N T K E R fb tb cb 0 Sl.nil false 0 (.map none) H4 bc) ?_
    rintro _ _ ⟨rfl, rfl⟩
    refine go ?_
    refine RegS.call (tapeAdd_ok tb sb bytes H4 bt hb4 (by omega)) ?_
    rintro _ H5 ⟨rfl, left, bt5, ol, c5⟩
    have bc5 := bc.chg c5 (by omega)
    have hF5 := isField_chg hF c5 (by omega)
    have s5 := c5.size
    have e35 : Ext H3 H5 := x4.then c5 fun b hb => by omega
    have x05 := x03.trans e35
    have hd5 := hd.ext x05
    refine go ?_
    refine RegS.call (deal_ok N T K E R fb tb cb 0 ses Sl.nil false 0 (.map none) left sd bytes data H5 bc5 bt5 hF5 ol.rowF (fun b hb => by have := ol.blk_ge hb; omega) hd5 (fun hp b hb => by have := hd.lt hp b hb; omega) (by omega) (by omega) (by omega) (by omega) (by omega) (by omega) (by omega) (by omega)) ?_
    rintro _ H6 hD
    cases hD with
    | short h h' => exact absurd h (by omega)
    | done h h' => exact absurd h (by omega)
    | large h hv bc6 bt6 hl6 c6 =>
      subst hv
      have e36 : Ext H3 H6 := e35.then c6 fun b hb => by omega
      have x06 := x03.trans e36
      have p6 := p3.ext e36
      have q6 := q3.ext e36
      refine go ?_
      refine RegP.call (split_ok sd data K H6 (hd.ext x06) (by omega) (by omega) (by omega)) ?_
      rintro _ H7 ⟨ca, css, rfl, M7, x7⟩
      refine ⟨.inl x7, ?_⟩
      have r7 := M7.row
      have l7 := M7.len
      rw [splitL_length] at l7
      have x07 := x06.trans x7
      have bc7 := bc6.ext x7
      have bt7 := bt6.ext x7
      have hl7 := hl6.ext x7
      have p7 := p6.ext x7
      have q7 := q6.ext x7
      have hmb : T * css.length ≤ 9223372036854775807 := by rw [l7]; omega
      refine go ?_
      refine RegS.call (stage_ok N T K E R fb tb cb 0 Sl.nil false 0 (.map none) [] [] m ms H7 bc7 (fun h => absurd h (by simp [Sl.nil])) (fun k hk => absurd hk (by simp)) (hm.ext x07) hf) ?_
      rintro _ H8 ⟨x8, ⟨s', hst, _⟩ | ⟨_, rfl⟩⟩
      · exact absurd hst stageP_zero
      have bc8 := bc7.ext x8
      have bt8 := bt7.ext x8
      have hl8 := hl7.ext x8
      have x08 := x07.trans x8
      refine go ?_
      refine RegS.allocA fun H9 x9 z9 b9 => ?_
      have b9 : Blk H9 H8.size 29 (msgC msg0 msgS0) := b9
      refine go ?_
      refine RegS.storeA b9 ?_
      have b10 := Blk.sets (msgC msg0 msgS0) 0 b9
      have c10 := hsets_chg H8.size (msgC msg0 msgS0) 0 H9
      have x810 : Ext H8 (hsets H9 H8.size 0 (msgC msg0 msgS0)) := x9.then c10 fun b hb => by omega
      have b10 : Blk (hsets H9 H8.size 0 (msgC msg0 msgS0)) H8.size 29 (msgC msg0 msgS0) := b10
      generalize hsets H9 H8.size 0 (msgC msg0 msgS0) = H10 at b10 x810 ⊢
      have x010 := x08.trans x810
      have hd10 := hd.ext x010
      have hb10 := hb.ext x010
      refine go ?_
      refine RegS.call (out20 (Ext.refl H10)) ?_
      rintro _ H11 ⟨rfl, x11⟩
      have b11 := b10.ext x11
      have hd11 := hd10.ext x11
      have hb11 := hb10.ext x11
      refine go ?_
      repeat (refine RegS.sp (fun _ => ?_) (fun h => absurd rfl h); refine go ?_)
      refine RegS.buildOne (e := 0) (cs := msgC msg0 msgS0) 29 (fun H12 b12 x12 z12 => ?_)
      refine go ?_
      refine RegS.buildOne (e := 0) (cs := msgC msg0 msgS0) 29 (fun H13 b13 x13 z13 => ?_)
      refine go ?_
      refine RegS.call (sameMsgs_ok msg0 msg0 msgS0 msgS0 H11.size H12.size H13 (b12.ext x13) b13 (msgIn0 _) (msgIn0 _) msgFit0 msgFit0) ?_
      rintro _ H14 ⟨rfl, x14⟩
      have e814 := (((x810.trans x11).trans x12).trans x13).trans x14
      have bc14 := bc8.ext e814
      have bt14 := bt8.ext e814
      have hl14 := hl8.ext e814
      have hb14 := hb.ext (x08.trans e814)
      rw [dec_pos rfl]
      refine go ?_
      refine RegS.call (tape_ok N T K E R fb tb cb 0 Sl.nil false 0 (.map none) H14 bc14) ?_
      rintro _ _ ⟨rfl, rfl⟩
      refine go ?_
      refine RegS.call (left_ok tb left _ bytes H14 bt14 hl14) ?_
      rintro _ _ ⟨rfl, rfl⟩
      refine go ?_
      repeat (refine RegS.sp (fun _ => ?_) (fun h => absurd rfl h); refine go ?_)
      refine RegS.call (session_ok N T K E R fb tb cb 0 Sl.nil false 0 (.map none) H14 bc14) ?_
      rintro _ _ ⟨rfl, rfl⟩
      refine go ?_
      exact ret1 ⟨congrArg Value.bool (dec_pos rfl), x08.trans e814⟩
  · refine go ?_
    refine go ?_
    refine RegS.call (clientNew_ok N T K E R H3) ?_
    rintro _ H4 ⟨cb, fb, tb, rfl, hF, bt, bc, x4, g1, g2, g3⟩
    have lcb := bc.lt
    have p4 := p3.ext x4
    have q4 := q3.ext x4
    have x04 := x03.trans x4
    have s04 := x03.size
    have hb4 := hb.ext x04
    refine go ?_
    refine RegS.call (tape_ok N T K E R fb tb cb 0 Sl.nil false 0 (.map none) H4 bc) ?_
    rintro _ _ ⟨rfl, rfl⟩
    refine go ?_
    refine RegS.call (tapeAdd_ok tb sb bytes H4 bt hb4 (by omega)) ?_
    rintro _ H5 ⟨rfl, left, bt5, ol, c5⟩
    have bc5 := bc.chg c5 (by omega)
    have hF5 := isField_chg hF c5 (by omega)
    have s5 := c5.size
    have e35 : Ext H3 H5 := x4.then c5 fun b hb => by omega
    have x05 := x03.trans e35
    have hd5 := hd.ext x05
    refine go ?_
    refine RegS.call (deal_ok N T K E R fb tb cb 0 ses Sl.nil false 0 (.map none) left sd bytes data H5 bc5 bt5 hF5 ol.rowF (fun b hb => by have := ol.blk_ge hb; omega) hd5 (fun hp b hb => by have := hd.lt hp b hb; omega) (by omega) (by omega) (by omega) (by omega) (by omega) (by omega) (by omega) (by omega)) ?_
    rintro _ H6 hD
    cases hD with
    | large h => exact absurd h (by omega)
    | short h h2 hv bc6 bt6 hl6 c6 =>
      subst hv
      have e36 : Ext H3 H6 := e35.then c6 fun b hb => by omega
      have x06 := x03.trans e36
      have p6 := p3.ext e36
      have q6 := q3.ext e36
      refine go ?_
      refine RegP.call (split_ok sd data K H6 (hd.ext x06) (by omega) (by omega) (by omega)) ?_
      rintro _ H7 ⟨ca, css, rfl, M7, x7⟩
      refine ⟨.inl x7, ?_⟩
      have r7 := M7.row
      have l7 := M7.len
      rw [splitL_length] at l7
      have x07 := x06.trans x7
      have bc7 := bc6.ext x7
      have bt7 := bt6.ext x7
      have hl7 := hl6.ext x7
      have p7 := p6.ext x7
      have q7 := q6.ext x7
      have hmb : T * css.length ≤ 9223372036854775807 := by rw [l7]; omega
      have hsn : bytes.length < T * css.length := by rw [l7]; omega
      refine go ?_
      refine RegS.call (stage_ok N T K E R fb tb cb 0 Sl.nil false 0 (.map none) [] [] m ms H7 bc7 (fun h => absurd h (by simp [Sl.nil])) (fun k hk => absurd hk (by simp)) (hm.ext x07) hf) ?_
      rintro _ H8 ⟨x8, ⟨s', hst, _⟩ | ⟨_, rfl⟩⟩
      · exact absurd hst stageP_zero
      have bc8 := bc7.ext x8
      have bt8 := bt7.ext x8
      have hl8 := hl7.ext x8
      have x08 := x07.trans x8
      refine go ?_
      refine RegS.allocA fun H9 x9 z9 b9 => ?_
      have b9 : Blk H9 H8.size 29 (msgC msg0 msgS0) := b9
      refine go ?_
      refine RegS.storeA b9 ?_
      have b10 := Blk.sets (msgC msg0 msgS0) 0 b9
      have c10 := hsets_chg H8.size (msgC msg0 msgS0) 0 H9
      have x810 : Ext H8 (hsets H9 H8.size 0 (msgC msg0 msgS0)) := x9.then c10 fun b hb => by omega
      have b10 : Blk (hsets H9 H8.size 0 (msgC msg0 msgS0)) H8.size 29 (msgC msg0 msgS0) := b10
      generalize hsets H9 H8.size 0 (msgC msg0 msgS0) = H10 at b10 x810 ⊢
      have x010 := x08.trans x810
      have hd10 := hd.ext x010
      have hb10 := hb.ext x010
      refine go ?_
      refine RegS.call (out20 (Ext.refl H10)) ?_
      rintro _ H11 ⟨rfl, x11⟩
      have b11 := b10.ext x11
      have hd11 := hd10.ext x11
      have hb11 := hb10.ext x11
      refine go ?_
      repeat (refine RegS.sp (fun _ => ?_) (fun h => absurd rfl h); refine go ?_)
      refine RegS.buildOne (e := 0) (cs := msgC msg0 msgS0) 29 (fun H12 b12 x12 z12 => ?_)
      refine go ?_
      refine RegS.buildOne (e := 0) (cs := msgC msg0 msgS0) 29 (fun H13 b13 x13 z13 => ?_)
      refine go ?_
      refine RegS.call (sameMsgs_ok msg0 msg0 msgS0 msgS0 H11.size H12.size H13 (b12.ext x13) b13 (msgIn0 _) (msgIn0 _) msgFit0 msgFit0) ?_
      rintro _ H14 ⟨rfl, x14⟩
      have e814 := (((x810.trans x11).trans x12).trans x13).trans x14
      have bc14 := bc8.ext e814
      have bt14 := bt8.ext e814
      have hl14 := hl8.ext e814
      have hb14 := hb.ext (x08.trans e814)
      rw [dec_pos rfl]
      refine go ?_
      refine RegS.call (tape_ok N T K E R fb tb cb 0 Sl.nil false 0 (.map none) H14 bc14) ?_
      rintro _ _ ⟨rfl, rfl⟩
      refine go ?_
      refine RegS.call (left_ok tb left _ bytes H14 bt14 hl14) ?_
      rintro _ _ ⟨rfl, rfl⟩
      refine go ?_
      repeat (refine RegS.sp (fun _ => ?_) (fun h => absurd rfl h); refine go ?_)
      refine RegS.call (session_ok N T K E R fb tb cb 0 Sl.nil false 0 (.map none) H14 bc14) ?_
      rintro _ _ ⟨rfl, rfl⟩
      refine go ?_
      exact ret1 ⟨congrArg Value.bool (dec_pos rfl), x08.trans e814⟩
    | done h h2 hv sa ss left' bc6 bt6 hl6 hg6 c6 =>
      subst hv
      have e36 : Ext H3 H6 := e35.then c6 fun b hb => by omega
      have x06 := x03.trans e36
      have p6 := p3.ext e36
      have q6 := q3.ext e36
      refine go ?_
      refine RegP.call (split_ok sd data K H6 (hd.ext x06) (by omega) (by omega) (by omega)) ?_
      rintro _ H7 ⟨ca, css, rfl, M7, x7⟩
      refine ⟨.inl x7, ?_⟩
      have r7 := M7.row
      have l7 := M7.len
      rw [splitL_length] at l7
      have x07 := x06.trans x7
      have bc7 := bc6.ext x7
      have bt7 := bt6.ext x7
      have hl7 := hl6.ext x7
      have p7 := p6.ext x7
      have q7 := q6.ext x7
      have hmb : T * css.length ≤ 9223372036854775807 := by rw [l7]; omega
      have hnn : T * css.length = T * columns data.length K := by rw [l7]
      have hsn : T * css.length ≤ bytes.length := by rw [l7]; omega
      refine go ?_
      refine RegS.call (stage_ok N T K E R fb tb cb ses sa false 0 (.map none) ss _ m ms H7 bc7 (fun h => ⟨(hg6.ext x7).brows, (dealt_len).1⟩) (fun k hk => by rw [dealt_len.2 k (by rw [(dealt_len).1] at hk; exact hk)]; omega) (hm.ext x07) hf) ?_
      rintro _ H8 ⟨x8, hst⟩
      have bc8 := bc7.ext x8
      have bt8 := bt7.ext x8
      have hl8 := hl7.ext x8
      have p8 := p7.ext x8
      have q8 := q7.ext x8
      have x08 := x07.trans x8
      have hsa : sa.ao.isNone = false := dealt_some hg6 (by rw [(dealt_len).1]; omega)
      rcases hst with ⟨s', hst, rfl, hin⟩ | ⟨hno, rfl⟩
      case inr =>
        refine go ?_
        refine RegS.allocA fun H9 x9 z9 b9 => ?_
        have b9 : Blk H9 H8.size 29 (msgC msg0 msgS0) := b9
        refine go ?_
        refine RegS.storeA b9 ?_
        have b10 := Blk.sets (msgC msg0 msgS0) 0 b9
        have c10 := hsets_chg H8.size (msgC msg0 msgS0) 0 H9
        have x810 : Ext H8 (hsets H9 H8.size 0 (msgC msg0 msgS0)) := x9.then c10 fun b hb => by omega
        have b10 : Blk (hsets H9 H8.size 0 (msgC msg0 msgS0)) H8.size 29 (msgC msg0 msgS0) := b10
        generalize hsets H9 H8.size 0 (msgC msg0 msgS0) = H10 at b10 x810 ⊢
        have x010 := x08.trans x810
        have hd10 := hd.ext x010
        have hb10 := hb.ext x010
        have bc10 := bc8.ext x810
        have bt10 := bt8.ext x810
        have hl10 := hl8.ext x810
        have p10 := p8.ext x810
        have q10 := q8.ext x810
        refine go ?_
        repeat (refine RegS.sp (fun h => absurd rfl h) (fun _ => ?_); refine go ?_)
        refine RegS.call (session_ok N T K E R fb tb cb ses sa false 0 (.map none) H10 bc10) ?_
        rintro _ _ ⟨rfl, rfl⟩
        refine go ?_
        repeat (refine RegS.sp (fun h => absurd rfl h) (fun _ => ?_); refine go ?_)
        refine RegS.call (tape_ok N T K E R fb tb cb ses sa false 0 (.map none) H10 bc10) ?_
        rintro _ _ ⟨rfl, rfl⟩
        refine go ?_
        refine RegS.call (left_ok tb left' _ _ H10 bt10 hl10) ?_
        rintro _ _ ⟨rfl, rfl⟩
        have hdr : (bytes.drop (T * columns data.length K)).length = bytes.length - T * css.length := by rw [List.length_drop, hnn]
        rw [hdr]
        refine go ?_
        refine RegS.sp (fun k1 => ?_) (fun k1 => ?_) <;> refine go ?_
        rotate_left
        refine RegS.sp (fun k2 => ?_) (fun k2 => ?_) <;> refine go ?_
        rotate_left
        refine RegS.sp (fun k3 => ?_) (fun k3 => ?_) <;> refine go ?_
        rotate_left
        refine RegS.sp (fun k4 => ?_) (fun k4 => ?_) <;> refine go ?_
        rotate_left
        refine Wp.br (fun k5 => ?_) (fun k5 => ?_) <;> refine go ?_
        rotate_left
        · exact absurd ⟨by omega, by omega, by omega, hsa, by omega, by omega⟩ hno
        all_goals
          refine RegS.call (out20 (Ext.refl H10)) ?_
          rintro _ H11 ⟨rfl, x11⟩
          have b11 := b10.ext x11
          refine go ?_
          repeat (refine RegS.sp (fun _ => ?_) (fun h => absurd rfl h); refine go ?_)
          refine RegS.buildOne (e := 0) (cs := msgC msg0 msgS0) 29 (fun H12 b12 x12 z12 => ?_)
          refine go ?_
          refine RegS.buildOne (e := 0) (cs := msgC msg0 msgS0) 29 (fun H13 b13 x13 z13 => ?_)
          refine go ?_
          refine RegS.call (sameMsgs_ok msg0 msg0 msgS0 msgS0 H11.size H12.size H13 (b12.ext x13) b13 (msgIn0 _) (msgIn0 _) msgFit0 msgFit0) ?_
          rintro _ H14 ⟨rfl, x14⟩
          have e814 := (((x810.trans x11).trans x12).trans x13).trans x14
          rw [dec_pos rfl]
          refine go ?_
          exact ret1 ⟨rfl, x08.trans e814⟩
      case inl =>
        have hda := hin.da
        have hin8 := hin
        refine go ?_
        refine RegS.allocA fun H9 x9 z9 b9 => ?_
        refine go ?_
        refine RegS.storeA b9 ?_
        have k8 := Blk.sets (msgC (stagedA m ((sharesL N (polysL N T K data (bytes.take (T * columns data.length K)))).getD m.to.toNat [])) s') 0 b9
        have c8 := hsets_chg H8.size (msgC (stagedA m ((sharesL N (polysL N T K data (bytes.take (T * columns data.length K)))).getD m.to.toNat [])) s') 0 H9
        have x810 := x9.then c8 fun b hb => by omega
        generalize hsets H9 H8.size 0 (msgC (stagedA m ((sharesL N (polysL N T K data (bytes.take (T * columns data.length K)))).getD m.to.toNat [])) s') = H10 at k8 x810 ⊢
        have b10 : Blk H10 H8.size 29 (msgC (stagedA m ((sharesL N (polysL N T K data (bytes.take (T * columns data.length K)))).getD m.to.toNat [])) s') := k8
        have x010 := x08.trans x810
        have hd10 := hd.ext x010
        have hb10 := hb.ext x010
        have bc10 := bc8.ext x810
        have bt10 := bt8.ext x810
        have hl10 := hl8.ext x810
        have p10 := p8.ext x810
        have q10 := q8.ext x810
        have hin10 := hin.ext x810
        refine go ?_
        repeat (refine RegS.sp (fun h => absurd rfl h) (fun _ => ?_); refine go ?_)
        refine RegS.call (session_ok N T K E R fb tb cb ses sa false 0 (.map none) H10 bc10) ?_
        rintro _ _ ⟨rfl, rfl⟩
        refine go ?_
        repeat (refine RegS.sp (fun h => absurd rfl h) (fun _ => ?_); refine go ?_)
        refine RegS.call (tape_ok N T K E R fb tb cb ses sa false 0 (.map none) H10 bc10) ?_
        rintro _ _ ⟨rfl, rfl⟩
        refine go ?_
        refine RegS.call (left_ok tb left' _ _ H10 bt10 hl10) ?_
        rintro _ _ ⟨rfl, rfl⟩
        have hdr : (bytes.drop (T * columns data.length K)).length = bytes.length - T * css.length := by rw [List.length_drop, hnn]
        rw [hdr]
        obtain ⟨w1, w2, w3, w4, w5, w6⟩ := hst
        refine go ?_
        refine RegS.allocA fun H11 x11 z11 b11 => ?_
        have b11 : Blk H11 H10.size 29 (msgC msg0 msgS0) := b11
        refine go ?_
        have q11 := q10.ext x11
        refine RegS.storeA b11 ?_
        have k12 : Blk (hsets H11 H10.size 0 (msgC m ms)) H10.size 29 (msgC m ms) := Blk.sets (msgC m ms) 0 b11
        have x1012 : Ext H10 (hsets H11 H10.size 0 (msgC m ms)) := x11.then (hsets_chg H10.size (msgC m ms) 0 H11) fun b hb => by omega
        have z12 : H11.size ≤ (hsets H11 H10.size 0 (msgC m ms)).size := (hsets_chg H10.size (msgC m ms) 0 H11).size
        have z11' := z11
        generalize hsets H11 H10.size 0 (msgC m ms) = H12 at k12 x1012 z12 ⊢
        have p12 := p10.ext x1012
        have q12 := q10.ext x1012
        have hd12 := hd10.ext x1012
        have hb12 := hb10.ext x1012
        have hin12 := hin10.ext x1012
        have b12 := b10.ext x1012
        have x012 := x010.trans x1012
        have lb10 := b10.lt
        have lq10 := q10.lt
        have hml := hm
        clear q11 b11 x11 p10 q10 hd10 hb10 hin10 bc10 bt10 hl10 p8 q8 bc8 bt8 hl8 p7 q7 bc7 bt7 hl7 p6 q6 bc6 bt6 hl6 M7 r7 hg6 c6 k8 c8 hd5 hd3 hb3 hb4 p4 q4 p3 q3 bt5 bc5 bc bt hF hF5 ol hda hin
        obtain ⟨n, hn⟩ := Int.eq_ofNat_of_zero_le w5
        have q12n : Blk H12 H1.size 29 [IV m.kind, IV m.src, I64 n, IV m.session, IV m.decided, IV m.commit, IV m.epoch, ms.hd.val, S m.id, IV m.size, IV m.sort, IV m.target, ms.de.val, ms.pa.val, IV m.code, ms.da.val] := by
          have h0 := q12
          simp only [msgC, hn] at h0
          exact h0
        clear q12
        have hbs : sb.len = bytes.length := hb12.len
        have hbc := sb.le
        have hhc : 0 ≤ T * css.length ∧ T * css.length ≤ sb.cap ∧ sb.cap ≤ sb.cap := ⟨Nat.zero_le _, by omega, Nat.le_refl _⟩
        have hcut := hb12.cut hhc (by omega)
        rw [List.drop_zero] at hcut
        refine go ?_
        refine RegP.cut 0 (T * css.length) sb.cap (.inl ⟨rfl, rfl⟩) (.inr ⟨_, _, rfl, rfl⟩) (.inl ⟨rfl, rfl⟩) hhc ?_
        refine go ?_
        have hcut' : Bytes H12 (sb.cut 0 (T * css.length) sb.cap) (bytes.take (T * columns data.length K)) := by rw [← hnn]; exact hcut
        refine RegP.call (rpolys_ok N T K E R sd _ data (bytes.take (T * columns data.length K)) H12 hd12 hcut' h (by omega) (by omega) (by omega) (by rw [List.length_take]; omega)) ?_
        rintro _ H13 ⟨qa, qss, rfl, Rq, y13⟩
        refine ⟨.inl y13, ?_⟩
        have hpl : (polysL N T K data (bytes.take (T * columns data.length K))).length = columns data.length K := polysL_length _ _ _ _ _
        have q13 := q12n.ext y13
        have p13 := p12.ext y13
        have k13 := k12.ext y13
        refine go ?_
        refine RegP.call (rshares_ok N T K E R qa qss (polysL N T K data (bytes.take (T * columns data.length K))) H13 Rq.brows (by omega) (by omega) (fun k hk => by rw [hpl] at hk; have hq := polysL_deg (N := N) (T := T) (K := K) (data := data) (rnd := bytes.take (T * columns data.length K)) hk (by omega); rw [← tl_length, polysL_tl hk] at hq; omega)) ?_
        rintro _ H14 ⟨ra, rss, rfl, Rr, y14⟩
        refine ⟨.inl y14, ?_⟩
        have q14 := q13.ext y14
        have p14 := p13.ext y14
        have k14 := k13.ext y14
        have hrow14 := Rr.brows.row
        have hsl := Rr.brows.len
        have hrb := Rr.brows.each n (by rw [(dealt_len).1]; omega)
        rw [(dealt_len).1] at hsl
        refine go ?_
        refine RegP.store (v := IV (-2)) (Blk.wr k14 (j := 1) (by simp)) ?_ ?_
        · have c15 : Chg (fun b => b = H10.size) H14 (hset H14 ⟨H10.size, 1, none⟩ (IV (-2))) := hset_chg H14 ⟨H10.size, 1, none⟩ (IV (-2))
          have q15 := q14.chg c15 (by omega)
          have ra15 : RowF Sl.val Sl.nil _ ra rss := RowF.chgN hrow14 c15 fun hp b hb => ⟨RowF.lt hrow14 hp b hb, by have := Rr.arr.blk_ge hb; have := y13.size; omega⟩
          exact proms
        have k15 := Blk.set (j := 1) (v := IV (-2)) k14
        have c15 : Chg (fun b => b = H10.size) H14 (hset H14 ⟨H10.size, 1, none⟩ (IV (-2))) := hset_chg H14 ⟨H10.size, 1, none⟩ (IV (-2))
        refine go ?_
        refine RegP.store (v := (rss.getD n Sl.nil).val) (Blk.wr k15 (j := 15) (by simp)) ?_ ?_
        · exact proms
        have k16 : Blk (hset (hset H14 ⟨H10.size, 1, none⟩ (IV (-2))) ⟨H10.size, 15, none⟩ (rss.getD n Sl.nil).val) H10.size 29 (msgC (stagedA m ((sharesL N (polysL N T K data (bytes.take (T * columns data.length K)))).getD n [])) { ms with da := rss.getD n Sl.nil }) := Blk.set (j := 15) (v := (rss.getD n Sl.nil).val) k15
        have c16 := c15.trans (hset_chg _ ⟨H10.size, 15, none⟩ (rss.getD n Sl.nil).val)
        generalize hset (hset H14 ⟨H10.size, 1, none⟩ (IV (-2))) ⟨H10.size, 15, none⟩ (rss.getD n Sl.nil).val = A at k16 c16 ⊢
        have zA := c16.size
        have xA : Ext H10 A := ((x1012.trans y13).trans y14).then c16 fun b hb => by omega
        have hinA := hin8.chg (((x810.trans x1012).trans y13).trans y14) c16 fun b hb => by omega
        have hmA := hm.chg (((x012.trans y13).trans y14)) c16 fun b hb => by omega
        have hrA : Bytes A (rss.getD n Sl.nil) ((sharesL N (polysL N T K data (bytes.take (T * columns data.length K)))).getD n []) := RowF.chgN hrb c16 (Bytes.notBlk hrb k14 (msgC_noB _ _))
        have bA := ((b12.ext y13).ext y14).chg c16 (by omega)
        have x0A := x010.trans xA
        have hlr := (dealt_len (N := N) (T := T) (K := K) (data := data) (rnd := bytes.take (T * columns data.length K))).2 n (by omega)
        have hnt : m.to.toNat = n := by omega
        rw [hnt] at bA hinA
        generalize (sharesL N (polysL N T K data (bytes.take (T * columns data.length K)))).getD n [] = row at k16 bA hinA hrA hlr
        refine go ?_
        refine RegS.call (out20 (Ext.refl A)) ?_
        rintro _ H15 ⟨rfl, y15⟩
        have bA15 := bA.ext y15
        have k17 := k16.ext y15
        have hinB := hinA.ext y15
        have hmB := hmA.ext y15
        have hrB := RowF.ext hrA y15
        refine go ?_
        refine RegS.buildOne (e := 0) (cs := msgC (stagedA m row) s') 29 (fun H16 b16 x16 z16 => ?_)
        have k18 := k17.ext x16
        refine go ?_
        refine RegS.buildOne (e := 0) (cs := msgC (stagedA m row) { ms with da := rss.getD n Sl.nil }) 29 (fun H17 b17 x17 z17 => ?_)
        refine go ?_
        have y1517 := x16.trans x17
        have hmC := hmB.ext y1517
        refine RegS.call (sameMsgs_ok (stagedA m row) (stagedA m row) s' { ms with da := rss.getD n Sl.nil } H15.size H16.size H17 (b16.ext x17) b17 (hinB.ext y1517) ⟨hmC.hd, hmC.de, hmC.pa, RowF.ext hrB y1517⟩ (stagedFit hf (by omega)) (stagedFit hf (by omega))) ?_
        rintro _ H18 ⟨rfl, x18⟩
        rw [dec_pos rfl]
        refine go ?_
        exact ret1 ⟨rfl, (((x0A.trans y15).trans y1517).trans x18)⟩
end Go.Proofs.Ytccgbgjhjpllcaa
