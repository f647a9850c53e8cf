/-
  The laws of layer 20, walked: known answers.
-/
import Derived.Test.YtgmemfcfjlndoaaGreatVClient3
import Derived.Test.YtgmemfcfjlndoaaGreatVOpen5
set_option linter.unusedVariables false
set_option linter.unusedSimpArgs false
namespace Go.Proofs.YtgmemfcfjlndoaaGreat
open Go Go.Vc Go.Gf

def Fine20 (H : Heap) (v : Value) (H' : Heap) : Prop := v = .bool true ∧ Ext H H'
theorem dealt_len {N T K : Nat} {data rnd : List UInt8} : (sharesL N (polysL N T K data rnd)).length = N ∧ ∀ k, k < N → ((sharesL N (polysL N T K data rnd)).getD k []).length = columns data.length K := by
  refine ⟨sharesL_length _ _, fun k hk => ?_⟩
  rw [sharesL_getD hk, shareL_length, polysL_length]
theorem dealt_some {H : Heap} {base : Nat} {e : TypeId} {t : Sl} {ss : List Sl} {m : List (List UInt8)} (h : GMat H base e t ss m) (hm : 1 ≤ m.length) : t.ao.isNone = false := by
  cases ha : t.ao with
  | none => have h1 := (t.ok ha).1; have h2 := h.arr.1; have h3 := h.len; simp only [List.length_map] at h2; omega
  | some a => rfl
def msgK : MsgA := { msg0 with kind := 1, session := 4, to := 2 }
theorem msgFitK : MsgFit msgK := by refine ⟨?_, ?_, ?_, ?_, ?_, ?_, ?_⟩ <;> simp [msgK, msg0, hdW]
set_option maxHeartbeats 8000000 in
theorem answers20_ok (H : Heap) : CallsH Tryz.prog 11 [] H (Fine20 H) := by
  refine CallsH.enter h11 Tryz.func11 rfl rfl rfl (by decide) fun u => go ?_
  refine RegS.call (clientNew_ok 3 1 1 0 9 H) ?_
  rintro _ H1 ⟨cb, fb, tb, rfl, hF, bt, bc, x1, g1, g2, g3⟩
  have lcb := bc.lt
  refine go ?_
  refine RegS.call (tape_ok 3 1 1 0 9 fb tb cb 0 Sl.nil false 0 (.map none) H1 bc) ?_
  rintro _ _ ⟨rfl, rfl⟩
  refine go ?_
  refine RegS.buildSlice fun H2 o2 e2 z2 => ?_
  have m2 : Mine H2 H1.size (Sl.fresh H1.size 1) [5] := OwnR.mine (e := 5) o2
  refine go ?_
  refine RegS.call (tapeAdd_ok tb _ [5] H2 (bt.ext e2) m2.bytes (by simp)) ?_
  rintro _ H3 ⟨rfl, left, bt3, ol, c3⟩
  have s2 := e2.size
  have x3 : Ext H H3 := (x1.trans e2).then c3 fun b hb => by omega
  have bc3 := (bc.ext e2).chg c3 (by omega)
  have hF3 := isField_chg (hF.ext e2) c3 (by omega)
  have s3 := c3.size
  refine go ?_
  refine RegS.buildSlice fun H4 o4 e4 z4 => ?_
  have m4 : Mine H4 H3.size (Sl.fresh H3.size 1) [9] := OwnR.mine (e := 5) o4
  have s4 := e4.size
  have hcol : columns ([9] : List UInt8).length 1 = 1 := by decide
  refine go ?_
  refine RegS.call (deal_ok 3 1 1 0 9 fb tb cb 0 4 Sl.nil false 0 (.map none) left _ [5] [9] H4 (bc3.ext e4) (bt3.ext e4) (hF3.ext e4) (ol.ext e4).rowF (fun b hb => by have := ol.blk_ge hb; omega) m4.bytes (fun _ b hb => by have := m4.blk b hb; omega) (by omega) (by omega) (by simp) (by omega) (by omega) (by omega) (by omega) (by simp)) ?_
  rintro _ H5 hD
  cases hD with
  | large h => exact absurd h (by simp)
  | short h h2 => rw [hcol] at h2; exact absurd h2 (by simp)
  | done h h2 hv sa ss left' bc5 bt5 hl5 hg5 c5 =>
    subst hv
    have x5 : Ext H H5 := (x3.trans e4).then c5 fun b hb => by omega
    obtain ⟨dl1, dl2⟩ := @dealt_len 3 1 1 [9] (([5] : List UInt8).take (1 * columns ([9] : List UInt8).length 1))
    rw [hcol] at dl1 dl2 hg5 hl5 bt5
    refine go ?_
    refine RegS.call (stage_ok 3 1 1 0 9 fb tb cb 4 sa false 0 (.map none) ss _ msgK msgS0 H5 bc5 (fun _ => ⟨hg5.brows, dl1⟩) (fun k hk => by rw [dl2 k (by omega)]; decide) ⟨HRow.nil H5, RowF.nil H5, RowF.nil H5, Bytes.nil H5⟩ msgFitK) ?_
    rintro _ H6 ⟨x6, ⟨s', hst, rfl, hin⟩ | ⟨hno, rfl⟩⟩
    case inr => exact absurd ⟨rfl, by decide, rfl, dealt_some hg5 (by rw [dl1]; omega), by decide, by decide⟩ hno
    have hrow : ((sharesL 3 (polysL 3 1 1 [9] (([5] : List UInt8).take (1 * 1)))).getD (2 : Int).toNat []).length = 1 := dl2 _ (by decide)
    have hda := hin.da
    have hl6 : Bytes H6 left' [] := hl5.ext x6
    have bc6 := bc5.ext x6
    have bt6 := bt5.ext x6
    refine go ?_
    refine RegS.allocA fun H7 x7 z7 b7 => ?_
    refine go ?_
    refine RegS.storeA b7 ?_
    have k8 := Blk.sets (msgC (stagedA msgK ((sharesL 3 (polysL 3 1 1 [9] (([5] : List UInt8).take (1 * 1)))).getD msgK.to.toNat [])) s') 0 b7
    have c8 := hsets_chg H6.size (msgC (stagedA msgK ((sharesL 3 (polysL 3 1 1 [9] (([5] : List UInt8).take (1 * 1)))).getD msgK.to.toNat [])) s') 0 H7
    have x68 : Ext H6 (hsets H7 H6.size 0 (msgC (stagedA msgK ((sharesL 3 (polysL 3 1 1 [9] (([5] : List UInt8).take (1 * 1)))).getD msgK.to.toNat [])) s')) := x7.then c8 fun b hb => by omega
    generalize hsets H7 H6.size 0 (msgC (stagedA msgK ((sharesL 3 (polysL 3 1 1 [9] (([5] : List UInt8).take (1 * 1)))).getD msgK.to.toNat [])) s') = H8 at k8 x68 ⊢
    have k8 : Blk H8 H6.size 38 (msgC (stagedA msgK ((sharesL 3 (polysL 3 1 1 [9] (([5] : List UInt8).take (1 * 1)))).getD msgK.to.toNat [])) s') := k8
    have hda8 : Bytes H8 s'.da ((sharesL 3 (polysL 3 1 1 [9] (([5] : List UInt8).take (1 * 1)))).getD (2 : Int).toNat []) := hda.ext x68
    have bc8 := bc6.ext x68
    have bt8 := bt6.ext x68
    have hl8 := hl6.ext x68
    generalize (sharesL 3 (polysL 3 1 1 [9] (([5] : List UInt8).take (1 * 1)))).getD (2 : Int).toNat [] = row at hrow hda8
    refine go ?_
    repeat (refine RegS.sp (fun _ => ?_) (fun h => absurd rfl h); refine go ?_)
    refine RegS.call (session_ok 3 1 1 0 9 fb tb cb 4 sa false 0 (.map none) H8 bc8) ?_
    rintro _ _ ⟨rfl, rfl⟩
    refine go ?_
    repeat (refine RegS.sp (fun _ => ?_) (fun h => absurd rfl h); refine go ?_)
    refine RegS.call (tape_ok 3 1 1 0 9 fb tb cb 4 sa false 0 (.map none) H8 bc8) ?_
    rintro _ _ ⟨rfl, rfl⟩
    refine go ?_
    refine RegS.call (left_ok tb left' _ [] H8 bt8 hl8) ?_
    rintro _ _ ⟨rfl, rfl⟩
    refine go ?_
    exact ret1 ⟨congrArg Value.bool (dec_pos rfl), (x5.trans x6).trans x68⟩
end Go.Proofs.YtgmemfcfjlndoaaGreat
