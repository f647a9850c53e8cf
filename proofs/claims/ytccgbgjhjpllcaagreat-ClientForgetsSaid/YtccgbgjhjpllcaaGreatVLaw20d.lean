/-
  The laws of layer 20, walked, on: what was forgotten is neither staged nor taken.
-/
import Derived.Test.YtccgbgjhjpllcaaGreatVLaw20c
set_option linter.unusedVariables false
set_option linter.unusedSimpArgs false
namespace Go.Proofs.YtccgbgjhjpllcaaGreat
open Go Go.Vc Go.Gf

set_option maxHeartbeats 16000000 in
theorem clientForgets_ok (N T K E R : Int) (sd sb : Sl) (ms : MsgS) (data bytes : List UInt8) (ses : Int) (m : MsgA) (other : Bool) (H : Heap) (hd : Bytes H sd data) (hb : Bytes H sb bytes) (hm : MsgIn H m ms) (hdl : data.length ≤ 140737488351232) (hbl : bytes.length ≤ 140737488351232)
    (hsb : -9223372036854775808 ≤ ses ∧ ses ≤ 9223372036854775807) (hp : ∀ x ∈ [N, T, K, E, R], -9223372036854775808 ≤ x ∧ x ≤ 9223372036854775807) :
    CallsH Tryz.prog 4 [pmI N T K E R, IV ses, sd.val, sb.val, .agg (msgC m ms).toArray, .bool other] H (Fine20 H) := by
  refine CallsH.enter h4 Tryz.func4 rfl rfl rfl (by decide) fun u => go ?_
  refine RegS.boxA fun H1 x1 z1 b1 => ?_
  refine go ?_
  refine RegS.boxA fun H2 x2 z2 b2 => ?_
  have b2 : Blk H2 H1.size 38 (msgC m ms) := b2
  have b1 := b1.ext x2
  have x02 := x1.trans x2
  refine go ?_
  refine RegS.call (good_ok N T K E R H2) ?_
  rintro _ H3 ⟨rfl, x3⟩
  have p3 := b1.ext x3
  have q3 := b2.ext x3
  have x03 := x02.trans x3
  have hd3 := hd.ext x03
  have hb3 := hb.ext x03
  by_cases hg : GoodP N T K E R
  case neg =>
    rw [dec_neg hg]
    refine go ?_
    refine RegS.call (out20c x03) ?_
    rintro _ H3 ⟨rfl, e3⟩
    refine go ?_
    exact ret1 ⟨rfl, e3⟩
  rw [dec_pos hg]
  obtain ⟨g1, g2, g3, g4, g5, g6, g7⟩ := hg
  have q0 := g1 0 (by omega)
  have q1 := g1 1 (by omega)
  have q2 := g1 2 (by omega)
  have q3' := g1 3 (by omega)
  simp only [List.getD_cons_zero, List.getD_cons_succ] at q0 q1 q2 q3'
  clear hp
  obtain ⟨N, rfl⟩ := Int.eq_ofNat_of_zero_le q0.1
  obtain ⟨T, rfl⟩ := Int.eq_ofNat_of_zero_le q1.1
  obtain ⟨K, rfl⟩ := Int.eq_ofNat_of_zero_le q2.1
  obtain ⟨E, rfl⟩ := Int.eq_ofNat_of_zero_le q3'.1
  obtain ⟨R, rfl⟩ := Int.eq_ofNat_of_zero_le (show 0 ≤ R by omega)
  clear g1
  have hcl := columns_le (size := data.length) (K := K) (by omega)
  have hsz := x02.size
  have hsz3 := x03.size
  refine go ?_
  refine RegS.sp (fun h1 => ?_) (fun h1 => ?_) <;> refine go ?_
  · refine RegS.call (out20c x03) ?_
    rintro _ H3 ⟨rfl, e3⟩
    refine go ?_
    exact ret1 ⟨rfl, e3⟩
  refine RegS.sp (fun h2 => ?_) (fun h2 => ?_) <;> refine go ?_
  · refine RegS.call (out20c x03) ?_
    rintro _ H3 ⟨rfl, e3⟩
    refine go ?_
    exact ret1 ⟨rfl, e3⟩
  refine Wp.br (fun h3 => ?_) (fun h3 => ?_) <;> refine go ?_
  · refine RegS.call (out20c x03) ?_
    rintro _ H3 ⟨rfl, e3⟩
    refine go ?_
    exact ret1 ⟨rfl, e3⟩
  refine RegS.call (clientNew_ok N T K E R H3) ?_
  rintro _ H4 ⟨cb, fb, tb, rfl, hF, bt, bc, x4, g1, g2, g3⟩
  have lcb := bc.lt
  have q4 := q3.ext x4
  have hb4 := hb3.ext x4
  refine go ?_
  refine RegS.call (tape_ok N T K E R fb tb cb 0 Sl.nil false 0 (.map none) H4 bc) ?_
  rintro _ _ ⟨rfl, rfl⟩
  refine go ?_
  refine RegS.call (tapeAdd_ok tb sb bytes H4 bt hb4 (by omega)) ?_
  rintro _ H5 ⟨rfl, left, bt5, ol, c5⟩
  have bc5 := bc.chg c5 (by omega)
  have hF5 := isField_chg hF c5 (by omega)
  have s5 := c5.size
  have e35 : Ext H3 H5 := x4.then c5 fun b hb => by omega
  have x05 := x03.trans e35
  have hd5 := hd.ext x05
  refine go ?_
  have hmul : T * columns data.length K ≤ 255 * 60 := Nat.mul_le_mul (by omega) (by omega)
  refine RegS.call (deal_ok N T K E R fb tb cb 0 ses Sl.nil false 0 (.map none) left sd bytes data H5 bc5 bt5 hF5 ol.rowF (fun b hb => by have := ol.blk_ge hb; omega) hd5 (fun hp b hb => by have := hd.lt hp b hb; omega) (by omega) (by omega) (by omega) (by omega) (by omega) (by omega) (by omega) (by omega)) ?_
  rintro _ H6 hD
  have hc6 : ∃ ses' dealt' wanted' size' came', Blk H6 cb 62 (clientC N T K E R fb tb ses' dealt' wanted' size' came') ∧ Chg (fun b => b = cb ∨ b = tb) H5 H6 := by
    cases hD with
    | large h => exact absurd h (by omega)
    | short h h2 hv bc6 bt6 hl6 c6 => exact ⟨_, _, _, _, _, bc6, c6⟩
    | done h h2 hv sa ss left' bc6 bt6 hl6 hg6 c6 => exact ⟨_, _, _, _, _, bc6, c6⟩
  obtain ⟨ses', dealt', wanted', size', came', bc6, c6⟩ := hc6
  clear hD
  have e36 : Ext H3 H6 := e35.then c6 fun b hb => by omega
  have q6 := q3.ext e36
  have x06 := x03.trans e36
  have hd6 := hd.ext x06
  refine go ?_
  refine Wp.brB (fun h => ?_) (fun h => ?_) <;> refine go ?_
  · refine RegS.call (ask_ok N T K E R fb tb cb ses' dealt' wanted' size' came' ses data.length H6 bc6) ?_
    rintro _ H7 ⟨bc7, m7, c7⟩
    have e37 : Ext H3 H7 := e36.then c7 fun b hb => by omega
    have q7 := q3.ext e37
    have x07 := x03.trans e37
    have s7 := c7.size
    have lcb7 := bc7.lt
    refine go ?_
    refine RegS.call (stageNo_ok N T K E R fb tb cb _ _ _ _ m ms H7 bc7) ?_
    rintro _ H8 ⟨rfl, x8⟩
    have bc8 := bc7.ext x8
    have q8 := q7.ext x8
    have s8 := x8.size
    refine go ?_
    refine RegS.allocA fun H9 x9 z9 b9 => ?_
    have b9 : Blk H9 H8.size 38 (msgC msg0 msgS0) := b9
    refine go ?_
    refine RegS.storeA b9 ?_
    have b10 : Blk (hsets H9 H8.size 0 (msgC msg0 msgS0)) H8.size 38 (msgC msg0 msgS0) := Blk.sets (msgC msg0 msgS0) 0 b9
    have x810 : Ext H8 (hsets H9 H8.size 0 (msgC msg0 msgS0)) := x9.then (hsets_chg H8.size (msgC msg0 msgS0) 0 H9) fun b hb => by omega
    generalize hsets H9 H8.size 0 (msgC msg0 msgS0) = H10 at b10 x810 ⊢
    have bc10 := bc8.ext x810
    have q10 := q8.ext x810
    refine go ?_
    refine RegS.call (forget_ok N T K E R fb tb cb _ _ _ _ _ H10 bc10) ?_
    rintro _ H11 ⟨bc11, c11⟩
    have b11 := b10.chg c11 (by omega)
    have q11 := q10.chg c11 (by have := q3.lt; omega)
    have e311 : Ext H3 H11 := (((e37.trans x8).trans x810)).then c11 fun b hb => by omega
    refine go ?_
    refine RegS.call (takeNo_ok N T K E R fb tb cb _ _ _ _ m ms H11 bc11) ?_
    rintro _ H12 ⟨rfl, x12⟩
    have b12 := b11.ext x12
    have bc12 := bc11.ext x12
    refine go ?_
    refine RegS.call (out20c (Ext.refl H12)) ?_
    rintro _ H13 ⟨rfl, x13⟩
    have b13 := b12.ext x13
    have bc13 := bc12.ext x13
    refine go ?_
    repeat (refine RegS.sp (fun _ => ?_) (fun h => absurd rfl h); refine go ?_)
    refine RegS.buildOne (e := 0) (cs := msgC msg0 msgS0) 38 (fun H14 b14 x14 z14 => ?_)
    refine go ?_
    refine RegS.buildOne (e := 0) (cs := msgC msg0 msgS0) 38 (fun H15 b15 x15 z15 => ?_)
    refine go ?_
    refine RegS.call (sameMsgs_ok msg0 msg0 msgS0 msgS0 H13.size H14.size H15 (b14.ext x15) b15 (msgIn0 _) (msgIn0 _) msgFit0 msgFit0) ?_
    rintro _ H16 ⟨rfl, x16⟩
    rw [dec_pos rfl]
    have bc16 := ((bc13.ext x14).ext x15).ext x16
    refine go ?_
    repeat (refine RegS.sp (fun _ => ?_) (fun h => absurd rfl h); refine go ?_)
    refine RegS.call (session_ok N T K E R fb tb cb _ _ _ _ _ H16 bc16) ?_
    rintro _ _ ⟨rfl, rfl⟩
    refine go ?_
    exact ret1 ⟨congrArg Value.bool (dec_pos rfl), (x03.trans e311).trans ((((x12.trans x13).trans x14).trans x15).trans x16)⟩
  · refine RegS.call (forget_ok N T K E R fb tb cb ses' dealt' wanted' size' came' H6 bc6) ?_
    rintro _ H7 ⟨bc7, c7⟩
    have e37 : Ext H3 H7 := e36.then c7 fun b hb => by omega
    have q7 := q3.ext e37
    have x07 := x03.trans e37
    have s7 := c7.size
    have lcb7 := bc7.lt
    refine go ?_
    refine RegS.call (stageNo_ok N T K E R fb tb cb _ _ _ _ m ms H7 bc7) ?_
    rintro _ H8 ⟨rfl, x8⟩
    have bc8 := bc7.ext x8
    have q8 := q7.ext x8
    have s8 := x8.size
    refine go ?_
    refine RegS.allocA fun H9 x9 z9 b9 => ?_
    have b9 : Blk H9 H8.size 38 (msgC msg0 msgS0) := b9
    refine go ?_
    refine RegS.storeA b9 ?_
    have b10 : Blk (hsets H9 H8.size 0 (msgC msg0 msgS0)) H8.size 38 (msgC msg0 msgS0) := Blk.sets (msgC msg0 msgS0) 0 b9
    have x810 : Ext H8 (hsets H9 H8.size 0 (msgC msg0 msgS0)) := x9.then (hsets_chg H8.size (msgC msg0 msgS0) 0 H9) fun b hb => by omega
    generalize hsets H9 H8.size 0 (msgC msg0 msgS0) = H10 at b10 x810 ⊢
    have bc10 := bc8.ext x810
    have q10 := q8.ext x810
    refine go ?_
    refine RegS.call (forget_ok N T K E R fb tb cb _ _ _ _ _ H10 bc10) ?_
    rintro _ H11 ⟨bc11, c11⟩
    have b11 := b10.chg c11 (by omega)
    have q11 := q10.chg c11 (by have := q3.lt; omega)
    have e311 : Ext H3 H11 := (((e37.trans x8).trans x810)).then c11 fun b hb => by omega
    refine go ?_
    refine RegS.call (takeNo_ok N T K E R fb tb cb _ _ _ _ m ms H11 bc11) ?_
    rintro _ H12 ⟨rfl, x12⟩
    have b12 := b11.ext x12
    have bc12 := bc11.ext x12
    refine go ?_
    refine RegS.call (out20c (Ext.refl H12)) ?_
    rintro _ H13 ⟨rfl, x13⟩
    have b13 := b12.ext x13
    have bc13 := bc12.ext x13
    refine go ?_
    repeat (refine RegS.sp (fun _ => ?_) (fun h => absurd rfl h); refine go ?_)
    refine RegS.buildOne (e := 0) (cs := msgC msg0 msgS0) 38 (fun H14 b14 x14 z14 => ?_)
    refine go ?_
    refine RegS.buildOne (e := 0) (cs := msgC msg0 msgS0) 38 (fun H15 b15 x15 z15 => ?_)
    refine go ?_
    refine RegS.call (sameMsgs_ok msg0 msg0 msgS0 msgS0 H13.size H14.size H15 (b14.ext x15) b15 (msgIn0 _) (msgIn0 _) msgFit0 msgFit0) ?_
    rintro _ H16 ⟨rfl, x16⟩
    rw [dec_pos rfl]
    have bc16 := ((bc13.ext x14).ext x15).ext x16
    refine go ?_
    repeat (refine RegS.sp (fun _ => ?_) (fun h => absurd rfl h); refine go ?_)
    refine RegS.call (session_ok N T K E R fb tb cb _ _ _ _ _ H16 bc16) ?_
    rintro _ _ ⟨rfl, rfl⟩
    refine go ?_
    exact ret1 ⟨congrArg Value.bool (dec_pos rfl), (x03.trans e311).trans ((((x12.trans x13).trans x14).trans x15).trans x16)⟩
end Go.Proofs.YtccgbgjhjpllcaaGreat
