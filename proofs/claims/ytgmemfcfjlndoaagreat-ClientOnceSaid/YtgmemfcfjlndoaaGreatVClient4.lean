/-
  The walks of package client, on: a client that is none, shares wanted, shares that came.
-/
import Derived.Test.YtgmemfcfjlndoaaGreatVClient3
import Derived.Test.YtgmemfcfjlndoaaGreatVKeys
import Derived.Test.YtgmemfcfjlndoaaGreatVOpen4
set_option linter.unusedVariables false
set_option linter.unusedSimpArgs false
namespace Go.Proofs.YtgmemfcfjlndoaaGreat
open Go Go.Vc Go.Gf

abbrev nilP : Value := .pointer none
theorem nilForget_ok (H : Heap) : CallsH Tryz.prog 109 [nilP] H fun v H' => H = H' := by
  refine CallsH.enter h109 Tryz.func109 rfl rfl rfl (by decide) fun u => go ?_
  refine RegS.q (h := Rd.neqPtr rfl rfl rfl rfl) ?_
  refine go ?_
  exact ret0n rfl
theorem nilAsk_ok (x y : Int) (H : Heap) : CallsH Tryz.prog 13 [nilP, IV x, IV y] H fun v H' => H = H' := by
  refine CallsH.enter h13 Tryz.func13 rfl rfl rfl (by decide) fun u => go ?_
  refine RegS.q (h := Rd.neqPtr rfl rfl rfl rfl) ?_
  refine go ?_
  exact ret0n rfl
theorem nilTape_ok (H : Heap) : CallsH Tryz.prog 45 [nilP] H fun v H' => v = nilP ∧ H = H' := by
  refine CallsH.enter h45 Tryz.func45 rfl rfl rfl (by decide) fun u => go ?_
  refine RegS.q (h := Rd.eqlPtr rfl rfl rfl rfl) ?_
  refine go ?_
  exact ret1 ⟨rfl, rfl⟩
theorem nilSession_ok (H : Heap) : CallsH Tryz.prog 49 [nilP] H fun v H' => v = IV 0 ∧ H = H' := by
  refine CallsH.enter h49 Tryz.func49 rfl rfl rfl (by decide) fun u => go ?_
  refine RegS.q (h := Rd.eqlPtr rfl rfl rfl rfl) ?_
  refine go ?_
  exact ret1 ⟨rfl, rfl⟩
theorem nilDeal_ok (x : Int) (s : Sl) (H : Heap) : CallsH Tryz.prog 47 [nilP, IV x, s.val] H fun v H' => v = IV 1 ∧ H = H' := by
  refine CallsH.enter h47 Tryz.func47 rfl rfl rfl (by decide) fun u => go ?_
  refine RegS.q (h := Rd.eqlPtr rfl rfl rfl rfl) ?_
  refine go ?_
  exact ret1 ⟨rfl, rfl⟩
theorem nilOwn_ok (m : MsgA) (ms : MsgS) (k : Int) (H : Heap) : CallsH Tryz.prog 53 [nilP, .agg (msgC m ms).toArray, IV k] H fun v H' => v = .bool false ∧ Ext H H' := by
  refine CallsH.enter h53 Tryz.func53 rfl rfl rfl (by decide) fun u => go ?_
  refine RegS.boxA fun H0 x0 z0 b0 => ?_
  refine go ?_
  refine RegP.q' (h := Rd.neqPtr rfl rfl rfl rfl) ?_
  refine go ?_
  exact ret1 ⟨rfl, x0⟩
theorem nilStage_ok (m : MsgA) (ms : MsgS) (H : Heap) : CallsH Tryz.prog 48 [nilP, .agg (msgC m ms).toArray] H fun v H' => v = .tuple #[.agg (msgC msg0 msgS0).toArray, .bool false] ∧ Ext H H' := by
  refine CallsH.enter h48 Tryz.func48 rfl rfl rfl (by decide) fun u => go ?_
  refine RegS.boxA fun H1 x1 z1 b1 => ?_
  have b1 : Blk H1 H.size 38 (msgC m ms) := b1
  refine go ?_
  refine RegS.allocA fun H2 x2 z2 b2 => ?_
  have b2 : Blk H2 H1.size 38 (msgC msg0 msgS0) := b2
  have b1 := b1.ext x2
  have x02 := x1.trans x2
  refine go ?_
  refine RegS.call (nilOwn_ok m ms 1 H2) ?_
  rintro _ H3 ⟨rfl, x3⟩
  have b23 := b2.ext x3
  refine go ?_
  refine RegS.storeA b23 ?_
  have k3 := Blk.sets (msgC msg0 msgS0) 0 b23
  have x03 := x02.trans x3
  have s1 := x1.size
  refine go ?_
  exact retcA (cs := msgC msg0 msgS0) k3 ⟨rfl, x03.then (hsets_chg H1.size _ 0 H3) fun b hb => by omega⟩
theorem nilTake_ok (m : MsgA) (ms : MsgS) (H : Heap) : CallsH Tryz.prog 15 [nilP, .agg (msgC m ms).toArray] H fun v H' => v = .tuple #[Sl.nil.val, .bool false] ∧ Ext H H' := by
  refine CallsH.enter h15 Tryz.func15 rfl rfl rfl (by decide) fun u => go ?_
  refine RegS.boxA fun H1 x1 z1 b1 => ?_
  have b1 : Blk H1 H.size 38 (msgC m ms) := b1
  refine go ?_
  refine RegP.call (nilOwn_ok m ms 4 H1) ?_
  rintro _ H2 ⟨rfl, x2⟩
  refine ⟨.inl x2, ?_⟩
  refine go ?_
  refine RegP.skE ?_
  refine go ?_
  refine RegP.skE ?_
  refine go ?_
  exact ret2 ⟨rfl, x1.trans x2⟩
theorem ask_ok (N T K E R fb tb cb : Nat) (ses : Int) (dealt : Sl) (wanted : Bool) (size : Int) (came : Value) (ses' size' : Int) (H : Heap) (hc : Blk H cb 104 (clientC N T K E R fb tb ses dealt wanted size came)) :
    CallsH Tryz.prog 13 [ptrV cb, IV ses', IV size'] H fun v H' => Blk H' cb 104 (clientC N T K E R fb tb ses' Sl.nil true size' (.map (some H.size))) ∧ MapI H' H.size [] ∧ Chg (· = cb) H H' := by
  refine CallsH.enter h13 Tryz.func13 rfl rfl rfl (by decide) fun u => go ?_
  refine RegS.q (h := Rd.neqPtr rfl rfl rfl rfl) ?_
  refine go ?_
  refine RegS.makeMap fun H1 m1 x1 z1 => ?_
  have hc1 := hc.ext x1
  have hlt := hc.lt
  refine go ?_
  refine RegS.storeA hc1 ?_
  refine go ?_
  exact ret0n ⟨Blk.sets [IV ses', Sl.nil.val, .bool true, IV size', .map (some H.size)] 7 hc1, m1.chg (hsets_chg _ _ _ _) (by omega), (x1.chg _).trans (hsets_chg _ _ _ _)⟩
theorem stageNo_ok (N T K E R fb tb cb : Nat) (ses : Int) (wanted : Bool) (size : Int) (came : Value) (m : MsgA) (ms : MsgS) (H : Heap) (hc : Blk H cb 104 (clientC N T K E R fb tb ses Sl.nil wanted size came)) :
    CallsH Tryz.prog 48 [ptrV cb, .agg (msgC m ms).toArray] H fun v H' => v = .tuple #[.agg (msgC msg0 msgS0).toArray, .bool false] ∧ Ext H H' := by
  refine CallsH.enter h48 Tryz.func48 rfl rfl rfl (by decide) fun u => go ?_
  refine RegS.boxA fun H1 x1 z1 b1 => ?_
  have b1 : Blk H1 H.size 38 (msgC m ms) := b1
  refine go ?_
  refine RegS.allocA fun H2 x2 z2 b2 => ?_
  have b2 : Blk H2 H1.size 38 (msgC msg0 msgS0) := b2
  have b1 := b1.ext x2
  have x02 := x1.trans x2
  have hc2 := hc.ext x02
  refine go ?_
  refine RegS.call (own_ok N T K E R fb tb cb ses Sl.nil wanted size came m ms 1 H2 hc2) ?_
  rintro _ H3 ⟨rfl, x3⟩
  have b23 := b2.ext x3
  have hc3 := hc2.ext x3
  have x03 := x02.trans x3
  have s1 := x1.size
  by_cases ho : m.kind = 1 ∧ m.session ≠ 0 ∧ m.session = ses
  · rw [dec_pos ho]
    refine go ?_
    refine RegS.storeA b23 ?_
    have k3 := Blk.sets (msgC msg0 msgS0) 0 b23
    refine go ?_
    exact retcA (cs := msgC msg0 msgS0) k3 ⟨rfl, x03.then (hsets_chg H1.size _ 0 H3) fun b hb => by omega⟩
  · rw [dec_neg ho]
    refine go ?_
    refine RegS.storeA b23 ?_
    have k3 := Blk.sets (msgC msg0 msgS0) 0 b23
    refine go ?_
    exact retcA (cs := msgC msg0 msgS0) k3 ⟨rfl, x03.then (hsets_chg H1.size _ 0 H3) fun b hb => by omega⟩
/-- No share is taken while none is under way. -/
theorem takeNo_ok (N T K E R fb tb cb : Nat) (dealt : Sl) (wanted : Bool) (size : Int) (came : Value) (m : MsgA) (ms : MsgS) (H : Heap) (hc : Blk H cb 104 (clientC N T K E R fb tb 0 dealt wanted size came)) :
    CallsH Tryz.prog 15 [ptrV cb, .agg (msgC m ms).toArray] H fun v H' => v = .tuple #[Sl.nil.val, .bool false] ∧ Ext H H' := by
  refine CallsH.enter h15 Tryz.func15 rfl rfl rfl (by decide) fun u => go ?_
  refine RegS.boxA fun H1 x1 z1 b1 => ?_
  have b1 : Blk H1 H.size 38 (msgC m ms) := b1
  refine go ?_
  refine RegP.call (own_ok N T K E R fb tb cb 0 dealt wanted size came m ms 4 H1 (hc.ext x1)) ?_
  rintro _ H2 ⟨rfl, x2⟩
  refine ⟨.inl x2, ?_⟩
  rw [dec_neg (fun h => h.2.1 h.2.2)]
  refine go ?_
  refine RegP.skE ?_
  refine go ?_
  refine RegP.skE ?_
  refine go ?_
  exact ret2 ⟨rfl, x1.trans x2⟩
end Go.Proofs.YtgmemfcfjlndoaaGreat
