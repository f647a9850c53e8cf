/-
  A message's bytes, walked, all of them; are messages the same?
-/
import Derived.Test.YtaikdcnifijcoaaGreatVMsg2
set_option linter.unusedVariables false
set_option linter.unusedSimpArgs false
namespace Go.Proofs.YtaikdcnifijcoaaGreat
open Go Go.Vc

/-- A message, plain. -/
structure MsgA where
  kind : Int
  src : Int
  to : Int
  session : Int
  decided : Int
  commit : Int
  epoch : Int
  heads : List HdT
  id : List UInt8
  size : Int
  sort : Int
  target : Int
  dealers : List Int
  parts : List Int
  code : Int
  data : List UInt8
/-- Its slices. -/
structure MsgS where
  hd : Sl
  de : Sl
  pa : Sl
  da : Sl
abbrev msgC (m : MsgA) (s : MsgS) : List Value := [IV m.kind, IV m.src, IV m.to, IV m.session, IV m.decided, IV m.commit, IV m.epoch, s.hd.val, S m.id, IV m.size, IV m.sort, IV m.target, s.de.val, s.pa.val, IV m.code, s.da.val]
structure MsgIn (H : Heap) (m : MsgA) (s : MsgS) : Prop where
  hd : HRow H s.hd m.heads
  de : RowF IV 0 H s.de m.dealers
  pa : RowF IV 0 H s.pa m.parts
  da : Bytes H s.da m.data
structure MsgFit (m : MsgA) : Prop where
  hl : m.heads.length ≤ 2000000
  hw : hdW m.heads ≤ 10000000
  hx : ∀ j, j < m.heads.length → (m.heads.getD j ([], 0)).1.length ≤ 2000000
  id : m.id.length ≤ 2000000
  de : m.dealers.length ≤ 2000000
  pa : m.parts.length ≤ 2000000
  da : m.data.length ≤ 2000000
theorem MsgIn.ext {H H' : Heap} {m : MsgA} {s : MsgS} (h : MsgIn H m s) (e : Ext H H') : MsgIn H' m s := ⟨h.hd.ext e, h.de.ext e, h.pa.ext e, h.da.ext e⟩
def msg0 : MsgA := ⟨0, 0, 0, 0, 0, 0, 0, [], [], 0, 0, 0, [], [], 0, []⟩
def msgS0 : MsgS := ⟨Sl.nil, Sl.nil, Sl.nil, Sl.nil⟩
theorem msgIn0 (H : Heap) : MsgIn H msg0 msgS0 := ⟨HRow.nil H, RowF.nil H, RowF.nil H, Bytes.nil H⟩
theorem msgFit0 : MsgFit msg0 := by refine ⟨?_, ?_, ?_, ?_, ?_, ?_, ?_⟩ <;> simp [msg0, hdW]
def msgB (m : MsgA) : List UInt8 := putB [m.kind, m.src, m.to, m.session, m.decided, m.commit, m.epoch] ++ (putB [(m.heads.length : Int)] ++ headsB m.heads) ++ layB m.id ++ putB [m.size, m.sort, m.target] ++ (putB [(m.dealers.length : Int)] ++ putB m.dealers) ++ (putB [(m.parts.length : Int)] ++ putB m.parts) ++ putB [m.code] ++ layB m.data
def msgBad (m : MsgA) : Bool := badI [m.kind, m.src, m.to, m.session, m.decided, m.commit, m.epoch] || (badI [(m.heads.length : Int)] || badH m.heads) || badL m.id || badI [m.size, m.sort, m.target] || (badI [(m.dealers.length : Int)] || badI m.dealers) || (badI [(m.parts.length : Int)] || badI m.parts) || badI [m.code] || badL m.data
set_option maxHeartbeats 8000000 in
theorem msg_ok (m : MsgA) (s : MsgS) (H : Heap) (hm : MsgIn H m s) (hf : MsgFit m) : CallsH Tryz.prog 26 [.agg (msgC m s).toArray] H fun v H' => ∃ (O : Sl), v = .tuple #[O.val, .bool (!msgBad m)] ∧ Bytes H' O (msgB m) ∧ Ext H H' := by
  refine CallsH.enter h26 Tryz.func26 rfl rfl rfl (by decide) fun u => go ?_
  refine RegS.boxA fun H1 x1 z1 b1 => ?_
  have hm1 := hm.ext x1
  have b1 : Blk H1 H.size 38 (msgC m s) := b1
  refine go ?_
  refine RegS.boxA fun H2 x2 z2 b2 => ?_
  have hB2 : BookAt H2 H1.size H1.size Sl.nil [] false := ⟨b2, OwnR.nil _ _ _ _, by simp [Sl.blk, Sl.nil], Nat.le_refl _⟩
  have bb2 := b1.ext x2
  have e2 : Ext H1 H2 := x2
  have lo1 : 0 < s.hd.len → ∀ b, s.hd.blk = some b → b < H1.size := hm1.hd.lt
  have lo2 : 0 < s.de.len → ∀ b, s.de.blk = some b → b < H1.size := hm1.de.lt
  have lo3 : 0 < s.pa.len → ∀ b, s.pa.blk = some b → b < H1.size := hm1.pa.lt
  have w1 := putB_le [m.kind, m.src, m.to, m.session, m.decided, m.commit, m.epoch]
  have w2 := putB_le [(m.heads.length : Int)]
  have w3 := headsB_le m.heads
  have w4 := layB_le m.id
  have w5 := putB_le [m.size, m.sort, m.target]
  have w6 := putB_le [(m.dealers.length : Int)]
  have w7 := putB_le m.dealers
  have w8 := putB_le [(m.parts.length : Int)]
  have w9 := putB_le m.parts
  have w10 := putB_le [m.code]
  simp only [List.length_cons, List.length_nil] at w1 w2 w5 w6 w8 w10
  obtain ⟨f1, f2, f3, f4, f5, f6, f7⟩ := hf
  have step : ∀ {A B : Heap}, Ext H1 A → Chg (fun b => H1.size ≤ b) A B → Ext H1 B := fun e c => e.then c fun _ h => h
  refine go ?_
  refine RegS.buildSlice fun H3 o3 e3 z3 => ?_
  have r3 : RowF IV 0 H3 (Sl.fresh H2.size 7) [m.kind, m.src, m.to, m.session, m.decided, m.commit, m.epoch] := OwnR.rowF (f := IV) (l := [m.kind, m.src, m.to, m.session, m.decided, m.commit, m.epoch]) o3
  refine go ?_
  refine RegS.call (put_ok _ _ _ _ _ _ _ H3 (hB2.ext e3) r3 (hB2.new e3 fun b hb => OwnR.blk_ge o3 hb) (by simp) (by simp)) ?_
  rintro _ A1 ⟨O1, B1, c1⟩
  have E1 := step (e2.trans e3) c1
  have k1 := b1.ext E1
  rw [List.nil_append, Bool.false_or] at B1
  refine go ?_
  refine RegS.call (heads_ok _ _ _ _ _ _ m.heads A1 B1 (hm1.hd.ext E1) lo1 (by omega) f2 (fun j hj => by have := f3 j hj; omega) (by omega)) ?_
  rintro _ A2 ⟨O2, B2, c2⟩
  have E2 := step E1 c2
  have k2 := b1.ext E2
  refine go ?_
  refine RegS.convStr fun s1 A3 m3 y3 => ?_
  refine go ?_
  refine RegS.call (lay_ok _ _ _ _ _ s1 _ A3 (B2.ext y3) m3 (by omega) (by simp only [List.length_append]; omega)) ?_
  rintro _ A4 ⟨O4, B4, c4⟩
  have E4 := step (E2.trans y3) c4
  have k4 := b1.ext E4
  refine go ?_
  refine RegS.buildSlice fun H5 o5 e5 z5 => ?_
  have r5 : RowF IV 0 H5 (Sl.fresh A4.size 3) [m.size, m.sort, m.target] := OwnR.rowF (f := IV) (l := [m.size, m.sort, m.target]) o5
  refine go ?_
  refine RegS.call (put_ok _ _ _ _ _ _ _ H5 (B4.ext e5) r5 (B4.new e5 fun b hb => OwnR.blk_ge o5 hb) (by simp) (by simp only [List.length_append]; omega)) ?_
  rintro _ A5 ⟨O5, B5, c5⟩
  have E5 := step (E4.trans e5) c5
  have k5 := b1.ext E5
  refine go ?_
  refine RegS.call (ints_ok _ _ _ _ _ _ m.dealers A5 B5 (hm1.de.ext E5) lo2 (by omega) (by simp only [List.length_append]; omega)) ?_
  rintro _ A6 ⟨O6, B6, c6⟩
  have E6 := step E5 c6
  have k6 := b1.ext E6
  refine go ?_
  refine RegS.call (ints_ok _ _ _ _ _ _ m.parts A6 B6 (hm1.pa.ext E6) lo3 (by omega) (by simp only [List.length_append]; omega)) ?_
  rintro _ A7 ⟨O7, B7, c7⟩
  have E7 := step E6 c7
  have k7 := b1.ext E7
  refine go ?_
  refine RegS.buildSlice fun H8 o8 e8 z8 => ?_
  have r8 : RowF IV 0 H8 (Sl.fresh A7.size 1) [m.code] := OwnR.rowF (f := IV) (l := [m.code]) o8
  refine go ?_
  refine RegS.call (put_ok _ _ _ _ _ _ _ H8 (B7.ext e8) r8 (B7.new e8 fun b hb => OwnR.blk_ge o8 hb) (by simp) (by simp only [List.length_append]; omega)) ?_
  rintro _ A8 ⟨O8, B8, c8⟩
  have E8 := step (E7.trans e8) c8
  have k8 := b1.ext E8
  refine go ?_
  refine RegS.call (lay_ok _ _ _ _ _ s.da m.data A8 B8 (hm1.da.ext E8) (by omega) (by simp only [List.length_append]; omega)) ?_
  rintro _ A9 ⟨O9, B9, c9⟩
  have E9 := step E8 c9
  have k9 := B9.blk
  refine go ?_
  refine ret2 ⟨O9, rfl, ?_, x1.trans E9⟩
  have := OwnR.rowF (f := Go.Vc.B8) (dd := 0) B9.own
  exact this
/-- Two messages, each alone in a row: the same? -/
theorem sameMsgs_ok (m n : MsgA) (s t : MsgS) (b c : Nat) (H : Heap) (hb : Blk H b 38 (msgC m s)) (hc : Blk H c 38 (msgC n t)) (hm : MsgIn H m s) (hn : MsgIn H n t) (fm : MsgFit m) (fn : MsgFit n) :
    CallsH Tryz.prog 42 [(Sl.fresh b 1).val, (Sl.fresh c 1).val] H fun v H' => v = .bool (dec (msgB m = msgB n)) ∧ Ext H H' := by
  refine CallsH.enter h42 Tryz.func42 rfl rfl rfl (by decide) fun u => go ?_
  refine RegS.q (h := Rd.len (s := Sl.fresh b 1) rfl rfl rfl rfl) ?_
  refine go ?_
  refine RegS.q (h := Rd.len (s := Sl.fresh c 1) rfl rfl rfl rfl) ?_
  have l1 : (((Sl.fresh b 1).len : Nat) : Int) = ((1 : Nat) : Int) := rfl
  have l2 : (((Sl.fresh c 1).len : Nat) : Int) = ((1 : Nat) : Int) := rfl
  rw [l1, l2]
  refine go ?_
  refine Wp.loop (ι := Nat) (fun i => [(0, (Sl.fresh b 1).val), (1, (Sl.fresh c 1).val), (5, I64 i)]) (fun i A => i ≤ 1 ∧ (i = 1 → msgB m = msgB n) ∧ Ext H A) (fun i => 1 - i) 0 subs ⟨by omega, fun h => by omega, Ext.refl _⟩ ?_
  rintro i A ⟨hi, hq, eA⟩
  have hi : i ≤ 1 := hi
  have hq : i = 1 → msgB m = msgB n := hq
  refine go ?_
  refine RegS.q (h := Rd.len (s := Sl.fresh b 1) rfl rfl rfl rfl) ?_
  rw [l1]
  refine go ?_
  refine Wp.br (fun hlt => ?_) (fun hlt => ?_)
  case refine_2 =>
    have hlt : ¬ (i : Int) < ((1 : Nat) : Int) := hlt
    refine go ?_
    exact ret1 ⟨by rw [dec_pos (hq (by omega))], eA⟩
  have hlt : (i : Int) < ((1 : Nat) : Int) := hlt
  have i0 : i = 0 := by omega
  subst i0
  have bA := hb.ext eA
  have cA := hc.ext eA
  have pl1 : (Sl.fresh b 1).cell (0 * 16) = ⟨b, 0, none⟩ := by rw [Sl.cell_eq]; rfl
  have pl2 : (Sl.fresh c 1).cell (0 * 16) = ⟨c, 0, none⟩ := by rw [Sl.cell_eq]; rfl
  refine go ?_
  refine RegS.q (h := Rd.indexAddr (s := Sl.fresh b 1) rfl rfl rfl rfl rfl (Nat.zero_lt_one)) ?_
  rw [pl1]
  refine RegS.q (h := Rd.loadBlk (b := b) (j := 0) rfl rfl rfl rfl bA (by repeat (first | exact IsL.nil | apply IsL.cons)) rfl) ?_
  refine go ?_
  refine RegS.call (msg_ok m s A (hm.ext eA) fm) ?_
  rintro _ A1 ⟨O1, rfl, r1, e1⟩
  refine go ?_
  refine RegS.q (h := Rd.indexAddr (s := Sl.fresh c 1) rfl rfl rfl rfl rfl (Nat.zero_lt_one)) ?_
  rw [pl2]
  refine RegS.q (h := Rd.loadBlk (b := c) (j := 0) rfl rfl rfl rfl (cA.ext e1) (by repeat (first | exact IsL.nil | apply IsL.cons)) rfl) ?_
  refine go ?_
  refine RegS.call (msg_ok n t A1 (hn.ext (eA.trans e1)) fn) ?_
  rintro _ A2 ⟨O2, rfl, r2, e2⟩
  have r12 := r1.ext e2
  have xA := (eA.trans e1).trans e2
  refine go ?_
  refine RegS.q (h := Rd.neqS rfl rfl rfl) ?_
  refine go ?_
  refine Wp.br (fun h => ?_) (fun h => ?_) <;> refine go ?_
  · exact ret1 ⟨by rw [dec_neg h], xA⟩
  · exact roundQ_n 1 subs ⟨by omega, fun _ => Classical.not_not.1 h, xA⟩ (by omega)
end Go.Proofs.YtaikdcnifijcoaaGreat
