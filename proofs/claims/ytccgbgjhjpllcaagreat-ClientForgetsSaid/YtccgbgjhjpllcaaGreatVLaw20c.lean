/-
  The laws of layer 20, walked: a client that is none; what was forgotten.
-/
import Derived.Test.YtccgbgjhjpllcaaGreatVClient4
import Derived.Test.YtccgbgjhjpllcaaGreatVLaw20
set_option linter.unusedVariables false
set_option linter.unusedSimpArgs false
namespace Go.Proofs.YtccgbgjhjpllcaaGreat
open Go Go.Vc Go.Gf

theorem out20c {H A : Heap} (x : Ext H A) : CallsH Tryz.prog 8 [] A fun v H' => v = .bool true ∧ Ext H H' :=
  (answers20_ok A).mono fun v H' h => ⟨h.1, x.trans h.2⟩
set_option maxHeartbeats 8000000 in
theorem clientNone_ok (sb : Sl) (ms : MsgS) (b : List UInt8) (n : Int) (m : MsgA) (H : Heap) (hb : Bytes H sb b) (hm : MsgIn H m ms) (hbl : b.length ≤ 140737488351232) (hn : -9223372036854775808 ≤ n ∧ n ≤ 9223372036854775807) : CallsH Tryz.prog 5 [IV n, sb.val, .agg (msgC m ms).toArray] H (Fine20 H) := by
  refine CallsH.enter h5 Tryz.func5 rfl rfl rfl (by decide) fun u => go ?_
  refine RegS.boxA fun H1 x1 z1 b1 => ?_
  have b1 : Blk H1 H.size 38 (msgC m ms) := b1
  refine go ?_
  refine RegS.call (nilForget_ok H1) ?_
  rintro _ _ rfl
  refine go ?_
  refine RegS.call (nilAsk_ok n n H1) ?_
  rintro _ _ rfl
  refine go ?_
  refine RegS.call (nilStage_ok m ms H1) ?_
  rintro _ H2 ⟨rfl, x2⟩
  have b12 := b1.ext x2
  refine go ?_
  refine RegS.allocA fun H3 x3 z3 b3 => ?_
  have b3 : Blk H3 H2.size 38 (msgC msg0 msgS0) := b3
  refine go ?_
  refine RegS.storeA b3 ?_
  have b4 : Blk (hsets H3 H2.size 0 (msgC msg0 msgS0)) H2.size 38 (msgC msg0 msgS0) := Blk.sets (msgC msg0 msgS0) 0 b3
  have x24 : Ext H2 (hsets H3 H2.size 0 (msgC msg0 msgS0)) := x3.then (hsets_chg H2.size (msgC msg0 msgS0) 0 H3) fun b hb => by omega
  generalize hsets H3 H2.size 0 (msgC msg0 msgS0) = H4 at b4 x24 ⊢
  have b14 := b12.ext x24
  have x04 := (x1.trans x2).trans x24
  refine go ?_
  refine RegS.call (nilTake_ok m ms H4) ?_
  rintro _ H5 ⟨rfl, x5⟩
  have b5 := b4.ext x5
  refine go ?_
  refine RegS.call (out20c (Ext.refl H5)) ?_
  rintro _ H6 ⟨rfl, x6⟩
  have b6 := b5.ext x6
  refine go ?_
  refine RegS.call (nilTape_ok H6) ?_
  rintro _ _ ⟨rfl, rfl⟩
  refine go ?_
  refine RegS.q (h := Rd.eqlPtr rfl rfl rfl rfl) ?_
  refine go ?_
  refine RegS.call (nilDeal_ok n sb H6) ?_
  rintro _ _ ⟨rfl, rfl⟩
  refine go ?_
  repeat (refine RegS.sp (fun _ => ?_) (fun h => absurd rfl h); refine go ?_)
  refine RegS.buildOne (e := 0) (cs := msgC msg0 msgS0) 38 (fun H7 b7 x7 z7 => ?_)
  refine go ?_
  refine RegS.buildOne (e := 0) (cs := msgC msg0 msgS0) 38 (fun H8 b8 x8 z8 => ?_)
  refine go ?_
  refine RegS.call (sameMsgs_ok msg0 msg0 msgS0 msgS0 H6.size H7.size H8 (b7.ext x8) b8 (msgIn0 _) (msgIn0 _) msgFit0 msgFit0) ?_
  rintro _ H9 ⟨rfl, x9⟩
  rw [dec_pos rfl]
  refine go ?_
  repeat (refine RegS.sp (fun _ => ?_) (fun h => absurd rfl h); refine go ?_)
  refine RegS.call (nilSession_ok H9) ?_
  rintro _ _ ⟨rfl, rfl⟩
  refine go ?_
  exact ret1 ⟨congrArg Value.bool (dec_pos rfl), ((((x04.trans x5).trans x6).trans x7).trans x8).trans x9⟩
end Go.Proofs.YtccgbgjhjpllcaaGreat
