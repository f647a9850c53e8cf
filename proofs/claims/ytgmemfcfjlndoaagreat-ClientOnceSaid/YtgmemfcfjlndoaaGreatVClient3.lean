/-
  The walks of package client, on: shares staged.
-/
import Derived.Test.YtgmemfcfjlndoaaGreatVClient2
set_option linter.unusedVariables false
set_option linter.unusedSimpArgs false
namespace Go.Proofs.YtgmemfcfjlndoaaGreat
open Go Go.Vc Go.Gf

def stagedA (m : MsgA) (l : List UInt8) : MsgA := { m with src := -2, data := l }
def stageP (N : Nat) (ses : Int) (dealt : Sl) (m : MsgA) : Prop := m.kind = 1 ∧ m.session ≠ 0 ∧ m.session = ses ∧ dealt.ao.isNone = false ∧ 0 ≤ m.to ∧ m.to < N
def StageR (H : Heap) (N : Nat) (ses : Int) (dealt : Sl) (rows : List (List UInt8)) (m : MsgA) (v : Value) (H' : Heap) : Prop :=
  Ext H H' ∧ ((∃ s' : MsgS, stageP N ses dealt m ∧ v = .tuple #[.agg (msgC (stagedA m (rows.getD m.to.toNat [])) s').toArray, .bool true] ∧ MsgIn H' (stagedA m (rows.getD m.to.toNat [])) s') ∨
    (¬ stageP N ses dealt m ∧ v = .tuple #[.agg (msgC msg0 msgS0).toArray, .bool false]))
set_option maxHeartbeats 8000000 in
theorem stage_ok (N T K E R fb tb cb : Nat) (ses : Int) (dealt : Sl) (wanted : Bool) (size : Int) (came : Value) (ss : List Sl) (rows : List (List UInt8)) (m : MsgA) (ms : MsgS) (H : Heap) (hc : Blk H cb 104 (clientC N T K E R fb tb ses dealt wanted size came))
    (hr : dealt.ao.isNone = false → BRows H dealt ss rows ∧ rows.length = N) (hrl : ∀ k, k < rows.length → (rows.getD k []).length ≤ 1000) (hm : MsgIn H m ms) (hf : MsgFit m) :
    CallsH Tryz.prog 48 [ptrV cb, .agg (msgC m ms).toArray] H (StageR H N ses dealt rows m) := by
  refine CallsH.enter h48 Tryz.func48 rfl rfl rfl (by decide) fun u => go ?_
  refine RegS.boxA fun H1 x1 z1 b1 => ?_
  have b1 : Blk H1 H.size 38 (msgC m ms) := b1
  refine go ?_
  refine RegS.allocA fun H2 x2 z2 b2 => ?_
  have b2 : Blk H2 H1.size 38 (msgC msg0 msgS0) := b2
  have b1 := b1.ext x2
  have x02 := x1.trans x2
  have hc2 := hc.ext x02
  refine go ?_
  refine RegS.call (own_ok N T K E R fb tb cb ses dealt wanted size came m ms 1 H2 hc2) ?_
  rintro _ H3 ⟨rfl, x3⟩
  have b13 := b1.ext x3
  have b23 := b2.ext x3
  have hc3 := hc2.ext x3
  have x03 := x02.trans x3
  have s02 := x02.size
  have s1 := x1.size
  have kz : ∀ us, Ext H (hsets H3 H1.size 0 us) := fun us => x03.then (hsets_chg H1.size us 0 H3) fun b hb => by omega
  by_cases ho : m.kind = 1 ∧ m.session ≠ 0 ∧ m.session = ses
  case neg =>
    rw [dec_neg ho]
    refine go ?_
    refine RegS.storeA b23 ?_
    have k3 := Blk.sets (msgC msg0 msgS0) 0 b23
    refine go ?_
    exact retcA (cs := msgC msg0 msgS0) k3 ⟨kz _, .inr ⟨fun k => ho ⟨k.1, k.2.1, k.2.2.1⟩, rfl⟩⟩
  rw [dec_pos ho]
  refine go ?_
  cases hd : dealt.ao.isNone with
  | true =>
    refine go ?_
    refine RegS.storeA b23 ?_
    have k3 := Blk.sets (msgC msg0 msgS0) 0 b23
    refine go ?_
    exact retcA (cs := msgC msg0 msgS0) k3 ⟨kz _, .inr ⟨fun k => by rw [stageP, hd] at k; exact absurd k.2.2.2.1 (by simp), rfl⟩⟩
  | false =>
    obtain ⟨hrows, hrn⟩ := hr hd
    refine go ?_
    refine RegS.call (there_ok N T K E R fb tb cb ses dealt wanted size came m.to H3 hc3) ?_
    rintro _ _ ⟨rfl, rfl⟩
    by_cases ht : 0 ≤ m.to ∧ m.to < N
    case neg =>
      rw [dec_neg ht]
      refine go ?_
      refine RegS.storeA b23 ?_
      have k3 := Blk.sets (msgC msg0 msgS0) 0 b23
      refine go ?_
      exact retcA (cs := msgC msg0 msgS0) k3 ⟨kz _, .inr ⟨fun k => ht ⟨k.2.2.2.2.1, k.2.2.2.2.2⟩, rfl⟩⟩
    rw [dec_pos ht]
    obtain ⟨n, hn⟩ := Int.eq_ofNat_of_zero_le ht.1
    have hrow3 := (hrows.ext x03).row
    have hrb := (hrows.ext x03).each n (by omega)
    have hrsl := hrows.len
    have hrln := hrl n (by omega)
    have b1n : Blk H3 H.size 38 [IV m.kind, IV m.src, I64 n, IV m.session, IV m.decided, IV m.commit, IV m.epoch, ms.hd.val, S m.id, IV m.size, IV m.sort, IV m.target, ms.de.val, ms.pa.val, IV m.code, ms.da.val] := by
      have h0 := b13
      simp only [msgC, hn] at h0
      exact h0
    clear b13
    refine go ?_
    refine RegP.call (clone_ok (ss.getD n Sl.nil) (rows.getD n []) H3 hrb (by omega)) ?_
    rintro _ H4 ⟨cl, rfl, ocl, x4⟩
    refine ⟨.inl x4, ?_⟩
    have b14 := b1n.ext x4
    have z4 := x4.size
    refine go ?_
    refine RegP.store (v := IV (-2)) (Blk.wr b14 (j := 1) (by simp)) ?_ ?_
    · exact proms
    have b15 := Blk.set (j := 1) (v := IV (-2)) b14
    have k5 := hset_chg H4 ⟨H.size, 1, none⟩ (IV (-2))
    refine go ?_
    refine RegP.store (v := cl.val) (Blk.wr b15 (j := 15) (by simp)) ?_ ?_
    · exact proms
    have b16 : Blk (hset (hset H4 ⟨H.size, 1, none⟩ (IV (-2))) ⟨H.size, 15, none⟩ cl.val) H.size 38 (msgC { m with src := -2, data := rows.getD n [] } { ms with da := cl }) := by
      have h0 := Blk.set (j := 15) (v := cl.val) b15
      have e : (msgC { m with src := -2, data := rows.getD n [] } { ms with da := cl }) = ([IV m.kind, IV m.src, I64 n, IV m.session, IV m.decided, IV m.commit, IV m.epoch, ms.hd.val, S m.id, IV m.size, IV m.sort, IV m.target, ms.de.val, ms.pa.val, IV m.code, ms.da.val].set 1 (IV (-2))).set 15 cl.val := by
        simp only [msgC, hn]; rfl
      rw [e]; exact h0
    have k6 : Chg (fun b => b = H.size) H4 (hset (hset H4 ⟨H.size, 1, none⟩ (IV (-2))) ⟨H.size, 15, none⟩ cl.val) := k5.trans (hset_chg _ ⟨H.size, 15, none⟩ cl.val)
    generalize hset (hset H4 ⟨H.size, 1, none⟩ (IV (-2))) ⟨H.size, 15, none⟩ cl.val = A at b16 k6
    have xA : Ext H A := (x03.trans x4).then k6 fun b hb => by omega
    have hmA := hm.ext xA
    have hclA : Bytes A cl (rows.getD n []) := (OwnR.rowF (f := B8) (dd := 0) (OwnR.chg ocl k6 fun b hb hb' => by have := (ocl.blk_ge hb).1; have := x03.size; have := b1n.lt; omega))
    have b2A : Blk A H1.size 38 (msgC msg0 msgS0) := (b23.ext x4).chg k6 (by omega)
    refine go ?_
    refine RegP.call (cloneH_ok ms.hd m.heads A hmA.hd hf.hl) ?_
    rintro _ A1 ⟨hd', rfl, rh, y1, gh⟩
    refine ⟨.inl y1, ?_⟩
    have b17 := b16.ext y1
    refine go ?_
    refine RegP.call (cloneI_ok ms.de m.dealers A1 (hmA.de.ext y1) hf.de) ?_
    rintro _ A2 ⟨de', rfl, rd, y2, gd'⟩
    refine ⟨.inl y2, ?_⟩
    have b18 := b17.ext y2
    refine go ?_
    refine RegP.call (cloneI_ok ms.pa m.parts A2 ((hmA.pa.ext y1).ext y2) hf.pa) ?_
    rintro _ A3 ⟨pa', rfl, rp, y3, gp⟩
    refine ⟨.inl y3, ?_⟩
    have b19 := b18.ext y3
    have y13 := (y1.trans y2).trans y3
    refine go ?_
    refine RegP.store (v := hd'.val) (Blk.wr b19 (j := 7) (by simp)) ?_ ?_
    · exact proms
    have b20 := Blk.set (j := 7) (v := hd'.val) b19
    refine go ?_
    refine RegP.store (v := de'.val) (Blk.wr b20 (j := 12) (by simp)) ?_ ?_
    · exact proms
    have b21 := Blk.set (j := 12) (v := de'.val) b20
    refine go ?_
    refine RegP.store (v := pa'.val) (Blk.wr b21 (j := 13) (by simp)) ?_ ?_
    · exact proms
    have b22 : Blk _ H.size 38 (msgC (stagedA m (rows.getD n [])) ⟨hd', de', pa', cl⟩) := Blk.set (j := 13) (v := pa'.val) b21
    have k7 : Chg (fun b => b = H.size) A3 (hset (hset (hset A3 ⟨H.size, 7, none⟩ hd'.val) ⟨H.size, 12, none⟩ de'.val) ⟨H.size, 13, none⟩ pa'.val) := ((hset_chg A3 ⟨H.size, 7, none⟩ hd'.val).trans (hset_chg _ ⟨H.size, 12, none⟩ de'.val)).trans (hset_chg _ ⟨H.size, 13, none⟩ pa'.val)
    generalize hset (hset (hset A3 ⟨H.size, 7, none⟩ hd'.val) ⟨H.size, 12, none⟩ de'.val) ⟨H.size, 13, none⟩ pa'.val = A4 at b22 k7
    have b2A4 := (b2A.ext y13).chg k7 (by omega)
    refine go ?_
    refine RegS.storeA b2A4 ?_
    have k8 := Blk.sets (msgC (stagedA m (rows.getD n [])) ⟨hd', de', pa', cl⟩) 0 b2A4
    have c8 := hsets_chg H1.size (msgC (stagedA m (rows.getD n [])) ⟨hd', de', pa', cl⟩) 0 A4
    refine go ?_
    refine retcA (cs := msgC (stagedA m (rows.getD n [])) ⟨hd', de', pa', cl⟩) k8 ⟨((xA.trans y13).then k7 fun b hb => by omega).then c8 fun b hb => by omega, .inl ⟨⟨hd', de', pa', cl⟩, ⟨ho.1, ho.2.1, ho.2.2, hd, ht.1, ht.2⟩, ?_, ?_⟩⟩
    · rw [show m.to.toNat = n by omega]
    · rw [show m.to.toNat = n by omega]
      have lA := b2A.lt
      have w1 := y1.size
      have w2 := y2.size
      have ne : ∀ b, A.size ≤ b → b ≠ H.size ∧ b ≠ H1.size := fun b hb => by omega
      have hz : A4.size ≤ (hsets A4 H1.size 0 (msgC (stagedA m (rows.getD n [])) ⟨hd', de', pa', cl⟩)).size := c8.size
      refine ⟨?_, ?_, ?_, ?_⟩
      · exact (((rh.ext y2).ext y3).chgN k7 fun _ b hb => (ne b (gh b hb)).1).chgN c8 fun _ b hb => (ne b (gh b hb)).2
      · have r1 := (rd.ext y3).chgN k7 fun hp b hb => ⟨(rd.ext y3).lt hp b hb, (ne b (by have := gd' b hb; omega)).1⟩
        exact r1.chgN c8 fun hp b hb => ⟨r1.lt hp b hb, (ne b (by have := gd' b hb; omega)).2⟩
      · have r1 := rp.chgN k7 fun hp b hb => ⟨rp.lt hp b hb, (ne b (by have := gp b hb; omega)).1⟩
        exact r1.chgN c8 fun hp b hb => ⟨r1.lt hp b hb, (ne b (by have := gp b hb; omega)).2⟩
      · have hcl3 := hclA.ext y13
        have gc : ∀ b, cl.blk = some b → b ≠ H.size ∧ b ≠ H1.size := fun b hb => by have := (ocl.blk_ge hb).1; have := b1n.lt; have := b23.lt; omega
        have r1 := hcl3.chgN k7 fun hp b hb => ⟨hcl3.lt hp b hb, (gc b hb).1⟩
        exact r1.chgN c8 fun hp b hb => ⟨r1.lt hp b hb, (gc b hb).2⟩
end Go.Proofs.YtgmemfcfjlndoaaGreat
