/-
  The walk of slot.Save.
-/
import Derived.Test.YtaikdcnifijcoaaGreatQ20
set_option linter.unusedVariables false
set_option linter.unusedSimpArgs false
namespace Go.Proofs.YtaikdcnifijcoaaGreat
open Go Go.Vc Go.Gf
section
variable {H : Heap} {O : Ow} {k sb : Nat} {s : Slt}
set_option maxHeartbeats 16000000 in
theorem save_ok (b : Sl) (data : List UInt8) (hbd : RoB H O b data) (hdl : data.length ≤ 1000000) (hw : WfO H O) (h : SlotAt H O k sb s) (hk : k ≠ 0) :
    CallsH Tryz.prog 198 [ptrD sb, b.val] H fun v H' => ∃ O', Step (· = k) H O H' O' ∧ SlotAt H' O' k sb (s.save data).1 ∧ v = I64 (s.save data).2 := by
  obtain ⟨db, bl, side, hb, h0, hd, hr⟩ := h
  have hkl : s.kept.length ≤ 16384 := by have := hr.klen; have := hr.room; omega
  have hroom := hr.room
  have hsd := hr.sd
  have hbd0 := hbd.row
  refine CallsH.enter h198 Tryz.func198 rfl rfl rfl (by decide) fun u => go ?_
  refine RegS.box (fun H1 e1 z1 b1 => ?_)
  have c1 : Box H1 H.size 125 (ptrD sb) := ⟨b1⟩
  refine run ?_
  refine RegS.alloc (fun H2 e2 z2 b2 => ?_)
  have c2 : Box H2 H1.size 35 (IV 0) := ⟨b2⟩
  have c12 := c1.ext e2
  have x02 := e1.trans e2
  have w2 := hw.ext x02
  have hb2 := hb.ext x02
  have hd2 := hd.ext hw x02
  have hbd2 := hbd0.ext x02
  refine run ?_
  refine RegP.call (takes_ok data.length H2 (by omega)) ?_
  rintro _ _ ⟨rfl, rfl⟩
  refine ⟨.inl (Ext.refl _), ?_⟩
  refine run ?_
  refine Wp.br (fun hns => ?_) (fun hns => ?_)
  · have hns : (s.room : Int) < (takesN data.length : Int) := hns
    refine run ?_
    refine RegS.store (v := IV 7) c2.wr ?_
    have cs := hset_chg H2 ⟨H1.size, 0, none⟩ (IV 7)
    have c3 : Box (hset H2 ⟨H1.size, 0, none⟩ (IV 7)) H1.size 35 (IV 7) := c2.set
    have x3 : Ext H (hset H2 ⟨H1.size, 0, none⟩ (IV 7)) := x02.then cs fun x hx => by simp only at hx; omega
    have e : s.save data = (s, 7) := by rw [Slt.save, if_pos (by omega)]
    refine run ?_
    rw [e]
    exact retc1 c3.cell ⟨O, x3.step hw, SlotAt.ext ⟨db, bl, side, hb, h0, hd, hr⟩ hw x3, rfl⟩
  have hns : ¬ (s.room : Int) < (takesN data.length : Int) := hns
  have htk : takesN data.length ≤ s.room := by omega
  refine run ?_
  refine RegS.call (root_ok hb2 hd2 hr w2) ?_
  rintro _ H3 ⟨rfl, x3⟩
  refine run ?_
  refine RegS.allocA fun H4 x4 z4 b4 => ?_
  have b4 : Blk H4 H3.size 192 [IV 0, IV 0] := b4
  refine run ?_
  refine RegS.storeA b4 ?_
  have b5 : Blk (hsets H4 H3.size 0 [I64 side, I64 s.kept.length]) H3.size 192 [I64 side, I64 s.kept.length] := Blk.sets [I64 side, I64 s.kept.length] 0 b4
  have x5 : Ext H3 (hsets H4 H3.size 0 [I64 side, I64 s.kept.length]) := x4.then (hsets_chg H3.size [I64 side, I64 s.kept.length] 0 H4) fun x hx => by omega
  generalize hsets H4 H3.size 0 [I64 side, I64 s.kept.length] = H5 at b5 x5 ⊢
  have x25 := x3.trans x5
  have n2 := x02.size
  have n3 := x3.size
  have n5 := x5.size
  have lt5 := b5.lt
  refine run ?_
  refine RegS.alloc (fun H6 e6 z6 b6 => ?_)
  have c6 : Box H6 H5.size 3 (IV 0) := ⟨b6⟩
  refine run ?_
  refine RegS.store (v := I64 (1 - side)) c6.wr ?_
  have cs6 := hset_chg H6 ⟨H5.size, 0, none⟩ (I64 (1 - side))
  have c7 : Box (hset H6 ⟨H5.size, 0, none⟩ (I64 (1 - side))) H5.size 3 (I64 (1 - side)) := c6.set
  have x7 : Ext H5 (hset H6 ⟨H5.size, 0, none⟩ (I64 (1 - side))) := e6.then cs6 fun x hx => by simp only at hx; omega
  generalize hset H6 ⟨H5.size, 0, none⟩ (I64 (1 - side)) = H7 at c7 x7 ⊢
  refine run ?_
  refine RegS.call (spieces_ok b H7) ?_
  rintro _ H8 ⟨rfl, c8, x8⟩
  have x58 := x7.trans x8
  have x28 := x25.trans x58
  have x08 := x02.trans x28
  have n7 := x7.size
  have n8 := x8.size
  have lt7 := c7.lt
  have lt8 := c8.lt
  have hL : SaveL H8 H.size H1.size sb H3.size H5.size H7.size b side s.kept.length 0 := ⟨c12.ext x28, c2.ext x28, b5.ext x58, c7.ext x8, c8⟩
  have hI : SaveI H O k db H8.size bl s.pw H8 O := ⟨x08.step hw, hd.ext hw x08, fun x h1 _ e => hk (by rw [← e]; exact hw.new x h1), Nat.le_refl _⟩
  have hbs : ∀ {A : Heap} {O' : Ow}, Step (· = k) H O A O' → Blk A sb 197 [ptrD db, I64 s.room] := fun st => hb.step st (by rw [h0]; exact fun e => hk e.symm)
  have hbb : ∀ {A : Heap} {O' : Ow}, Step (· = k) H O A O' → Bytes A b data := fun st => (hbd.step st fun e => hk e.symm).row
  have hidx : ∀ i, i < takesN data.length → 1 + (1 - side) * s.room + i < bl.length := fun i hi => by rw [hr.len]; rcases side_two hsd with e | e <;> rw [e] <;> omega
  clear c12 c2 c1 c6 c7 c8 b4 b5 hb2 hd2 hbd2 b1 b2 b6
  refine run ?_
  obtain ⟨base, hbase⟩ : ∃ base, base = 1 + (1 - side) * s.room := ⟨_, rfl⟩
  rw [← hbase] at hidx
  have hne : ¬ H.size = H1.size ∧ ¬ H3.size = H1.size ∧ ¬ H5.size = H1.size ∧ ¬ H7.size = H1.size ∧ H1.size < H8.size := by omega
  have hlocal : ∀ {A A2 : Heap}, (∀ x, H.size ≤ x → x < H8.size → A2[x]? = A[x]?) → ∀ {e : Int}, SaveL A H.size H1.size sb H3.size H5.size H7.size b side s.kept.length e → SaveL A2 H.size H1.size sb H3.size H5.size H7.size b side s.kept.length e := fun hs e hL => hL.same fun x hx => hs x (by omega) (by omega)
  refine Wp.rangeW (pieces1_it b data H7.size hdl) (fun i vs => [(1, b.val), (2, ptrD H.size), (4, ptrD H1.size), (5, ptrD H3.size), (6, ptrD H5.size), (7, I64 i), (8, vs.getD 1 undef)])
    (fun i A => ∃ O', SaveI H O k db H8.size (putBs bl base (pieceB data) i) (Pw.run i s.pw) A O' ∧ SaveL A H.size H1.size sb H3.size H5.size H7.size b side s.kept.length 0 ∧ (0 < i → (Pw.run i s.pw).gone = false))
    (fun e A => e = .ret ∧ ∃ O' i, SaveI H O k db H8.size (putBs bl base (pieceB data) i) (Pw.run (i + 1) s.pw) A O' ∧ SaveL A H.size H1.size sb H3.size H5.size H7.size b side s.kept.length 3 ∧ (Pw.run (i + 1) s.pw).gone = true ∧ i < takesN data.length) ?_ ?_ ?_ ?_ ?_ ?_ ?_ ?_ ?_ ?_
  · rintro i A ⟨O', i1, i2, i3⟩
    exact ⟨i2.p, hbb i1.st⟩
  · rintro i A A' ⟨O', i1, i2, i3⟩ kk
    exact ⟨O', i1.keep kk (by omega), i2.keep kk, i3⟩
  · rintro e A A' ⟨he, O', i, i1, i2, i3, i4⟩ kk
    exact ⟨he, O', i, i1.keep kk (by omega), i2.keep kk, i3, i4⟩
  · rintro i A A' vs ⟨p, rfl, hp⟩ kk
    exact ⟨p, rfl, hp.keep kk⟩
  · rintro i A vs ⟨p, rfl, hp⟩
    rfl
  · exact ⟨O, by rw [putBs_zero]; exact ⟨hI.st, hI.dk, fun x h1 _ e => hk (by rw [← e]; exact hw.new x h1), hI.sz⟩, hL, fun h => absurd h (by omega)⟩
  · rintro u l i A vs hi _ ⟨p, rfl, hp⟩
    refine run ?_
    exact ⟨rfl, rfl, rfl, rfl, rfl, rfl, rfl, rfl, rfl, rfl, trivial⟩
  · rintro u l i A vs nA hi ⟨O', i1, i2, i3⟩ ⟨p, rfl, hp⟩
    have c2c := i2.s.cell
    have o2c := i2.o.cell
    have hbA := hbs i1.st
    show Wp _ _ _ [(1, b.val), (2, ptrD H.size), (4, ptrD H1.size), (5, ptrD H3.size), (6, ptrD H5.size), (7, I64 i), (8, p.val)] _ _
    refine run ?_
    refine RegP.call (block_ok (1 - side) i (by omega) (by unfold takesN at hi; omega) hroom hbA) ?_
    rintro _ _ ⟨rfl, rfl⟩
    refine ⟨.inl (Ext.refl _), ?_⟩
    rw [← hbase]
    refine run ?_
    have hix := hidx i hi
    refine RegP.call (write_ok (base + i) p (pieceB data i) (by rw [putBs_length]; exact hix) hp (pieceB_length _ _) i1.st.wf i1.dk (run_left hr.left i) hk) ?_
    rintro _ A2 ⟨O2, st2, d2, rfl⟩
    have hsame : ∀ x, H.size ≤ x → x < H8.size + 2 → A2[x]? = A[x]? := fun x h1 h2 => i1.same nA st2 h1 h2
    have L2 := hlocal (fun x h1 h2 => hsame x h1 (by omega)) i2
    have I2 := i1.next nA st2 d2
    have c2c2 := L2.s.cell
    have o2c2 := L2.o.cell
    have hbA2 := hbs I2.st
    have hpair : Pair H8.size A A2 := fun x h1 h2 => hsame x (by omega) (by omega)
    have hwr : (Pw.run i s.pw).wr = Pw.run (i + 1) s.pw := rfl
    rw [hwr] at I2 ⊢
    refine ⟨.inr proms2, ?_⟩
    cases hg : (Pw.run (i + 1) s.pw).gone with
    | true =>
      rw [hg] at I2
      simp only [if_true] at I2 ⊢
      refine run ?_
      refine RegS.store (v := IV 3) L2.res.wr ?_
      have cs := hset_chg A2 ⟨H1.size, 0, none⟩ (IV 3)
      have r3 : Box (hset A2 ⟨H1.size, 0, none⟩ (IV 3)) H1.size 35 (IV 3) := L2.res.set
      generalize hset A2 ⟨H1.size, 0, none⟩ (IV 3) = A3 at cs r3 ⊢
      have I3 : SaveI H O k db H8.size (putBs bl base (pieceB data) i) (Pw.run (i + 1) s.pw) A3 O2 := SaveI.local (r := H1.size) I2 cs (by omega) (I2.lo _ (by omega) (by omega))
      have L3 : SaveL A3 H.size H1.size sb H3.size H5.size H7.size b side s.kept.length 3 := ⟨L2.s.chg cs hne.1, r3, L2.r.chg cs hne.2.1, L2.o.chg cs hne.2.2.1, L2.p.chg cs hne.2.2.2.1⟩
      have hp3 : Pair H8.size A2 A3 := fun x h1 h2 => cs.get x (by have := I2.sz; have := st2.size; omega) (by simp only; omega)
      refine run ?_
      exact ⟨rfl, hpair.trans hp3, rfl, O2, i, I3, L3, hg, hi⟩
    | false =>
      rw [hg] at I2
      simp only [Bool.false_eq_true, if_false] at I2 ⊢
      rw [putBs_succ hix] at I2
      refine run ?_
      exact ⟨rfl, hpair, O2, I2, L2, fun _ => by first | exact hg | trivial⟩
  · rintro A D hD ⟨O', i1, i2, i3⟩ hd
    have c2c := i2.s.cell
    have o2c := i2.o.cell
    have hbA := hbs i1.st
    have h32 : ∀ b ∈ putBs bl base (pieceB data) (takesN data.length), b.length = 32 := putBs_32 hr.b32 (pieceB_length data)
    have dD := i1.dk.drop hd (by intros; simp) h32
    have hDl : D < A.size := (Array.getElem?_eq_some_iff.1 hd).1
    have stD : Step (· = k) H O A (O'.give (· = D) 0) := i1.st.give fun x hx => by have hx : x = D := hx; omega
    refine run ?_
    refine RegS.makeSlice (n := 32) ?_ ?_ (fun A1 o1 y1 w1 => ?_)
    · omega
    · omega
    have k1 := OwnR.toBlk o1
    have I1 := i1.ext y1
    have L1 := i2.ext y1
    have c2c1 := L1.s.cell
    have o2c1 := L1.o.cell
    have hbd1 := hbb I1.st
    have hd1 := y1.blk hd
    refine run ?_
    refine RegS.buildSlice fun A2 o2 y2 w2 => ?_
    have r2 : Bytes A2 (Sl.fresh A1.size 5) [UInt8.ofNat (1 - side), UInt8.ofNat (data.length >>> 24), UInt8.ofNat (data.length >>> 16), UInt8.ofNat (data.length >>> 8), UInt8.ofNat data.length] := OwnR.rowF (f := B8) (l := [UInt8.ofNat (1 - side), UInt8.ofNat (data.length >>> 24), UInt8.ofNat (data.length >>> 16), UInt8.ofNat (data.length >>> 8), UInt8.ofNat data.length]) o2
    have k2 := k1.ext y2
    refine run ?_
    refine RegS.copyB k2 (by rw [List.length_replicate]) r2.row (by simp) (fun v hv => by obtain ⟨b, _, rfl⟩ := List.mem_map.1 hv; rfl) ?_
    have kc := hsets_chg A.size ([UInt8.ofNat (1 - side), UInt8.ofNat (data.length >>> 24), UInt8.ofNat (data.length >>> 16), UInt8.ofNat (data.length >>> 8), UInt8.ofNat data.length].map B8) 0 A2
    have k3 := Blk.two0 0 k2 (b := [UInt8.ofNat (1 - side), UInt8.ofNat (data.length >>> 24), UInt8.ofNat (data.length >>> 16), UInt8.ofNat (data.length >>> 8), UInt8.ofNat data.length]) (by simp)
    have k3 : Blk _ A.size 5 ((rootB (1 - side) data.length).map B8) := k3
    generalize hsets A2 A.size 0 _ = A3 at kc k3 ⊢
    have x13 : Ext A A3 := (y1.trans y2).then kc fun x hx => by omega
    have rt : Bytes A3 (Sl.fresh A.size 32) (rootB (1 - side) data.length) := OwnR.rowF (e := 5) (base := A.size) (OwnR.ofBlk k3 (Nat.le_refl _) (by rw [List.length_map, rootB_length]) (by simp only [maxLen]; omega))
    have I3 := i1.ext x13
    have L3 := i2.ext x13
    have hd3 := x13.blk hd
    have dk3 := dD.ext stD.wf x13
    have st3 : Step (· = k) H O A3 (O'.give (· = D) 0) := stD.trans (x13.step stD.wf)
    have hbA3 := hbs I3.st
    have c2c3 := L3.s.cell
    have hD0 : (O'.give (· = D) 0) D ≠ k := fun e => hk (by rw [← e]; exact Ow.give_pos (O := O') (p := (· = D)) rfl)
    have n813 : H8.size ≤ A3.size := Nat.le_trans i1.sz x13.size
    have hz : H8.size - 2 + 2 ≤ A3.size := by omega
    have J3 : SaveI H O k db (H8.size - 2) (putBs bl base (pieceB data) (takesN data.length)) (Pw.run (takesN data.length) s.pw) A3 (O'.give (· = D) 0) := ⟨st3, dk3, fun x h1 h2 => by
      by_cases e : x = D
      · subst e; exact hD0
      · rw [Ow.give_neg (by exact e)]; exact i1.lo x h1 (by omega), by omega⟩
    refine run ?_
    refine RegS.call (write_ok 0 (Sl.fresh A.size 32) (rootB (1 - side) data.length) (by rw [putBs_length, hr.len]; omega) rt (rootB_length _ _) J3.st.wf J3.dk (run_left hr.left _) hk) ?_
    rintro _ A4 ⟨O4, st4, d4, rfl⟩
    have hwr : (Pw.run (takesN data.length) s.pw).wr = Pw.run (takesN data.length + 1) s.pw := rfl
    rw [hwr] at d4 ⊢
    have J4 := J3.next hz st4 d4
    have L4 := hlocal (fun x h1 h2 => J3.same hz st4 h1 (by omega)) L3
    have hDl3 : D < A3.size := Nat.lt_of_lt_of_le hDl x13.size
    have hd4 : A4[D]? = some (.deferred (some [])) := (st4.chg.get D hDl3 hD0).trans hd3
    have hD4 : O4 D ≠ k := by rw [st4.agr D hDl3]; exact hD0
    have n84 : H8.size ≤ A4.size := Nat.le_trans n813 st4.size
    cases hg : (Pw.run (takesN data.length + 1) s.pw).gone with
    | true =>
      rw [hg] at J4
      simp only [if_true] at J4 ⊢
      have e : s.save data = ({ s with pw := Pw.run (takesN data.length + 1) s.pw }, 3) := by rw [Slt.save, if_neg (by omega), if_pos hg]
      refine run ?_
      refine RegS.store (v := IV 3) L4.res.wr ?_
      have cs := hset_chg A4 ⟨H1.size, 0, none⟩ (IV 3)
      have r3 : Box (hset A4 ⟨H1.size, 0, none⟩ (IV 3)) H1.size 35 (IV 3) := L4.res.set
      generalize hset A4 ⟨H1.size, 0, none⟩ (IV 3) = A5 at cs r3 ⊢
      have J5 := SaveI.local (r := H1.size) J4 cs (by omega) (J4.lo _ (by omega) (by omega))
      have hd5 : A5[D]? = some (.deferred (some [])) := (cs.get D (by have := st4.size; omega) (by simp only; omega)).trans hd4
      have kk := Keep.shut (B := H8.size) hD hd5
      have J6 := J5.keep kk (by omega)
      refine run ?_
      rw [e]
      exact retc1d hd5 (r3.keep kk).cell ⟨O4, J6.st, ⟨db, putBs bl base (pieceB data) (takesN data.length), side, hbs J6.st, J6.st.own hb.lt h0, J6.dk, by rw [hbase]; exact hr.half (by omega) (pieceB_length data) hg (run_left hr.left _)⟩, rfl⟩
    | false =>
      rw [hg] at J4
      simp only [Bool.false_eq_true, if_false] at J4 ⊢
      have rb4 := L4.r
      have hg0 : s.pw.gone = false := Pw.run_ok (j := 0) hg (by omega)
      refine run ?_
      refine RegS.call (takes_ok s.kept.length A4 (by omega)) ?_
      rintro _ _ ⟨rfl, rfl⟩
      refine run ?_
      obtain ⟨bl2, hbl2⟩ : ∃ bl2, bl2 = (putBs bl base (pieceB data) (takesN data.length)).set 0 (rootB (1 - side) data.length) := ⟨_, rfl⟩
      rw [← hbl2] at J4
      have hl2 : bl2.length = bl.length := by rw [hbl2, List.length_set, putBs_length]
      have htk2 := le_takes hr.klen
      have hidx2 : ∀ i, i < takesN s.kept.length → 1 + side * s.room + i < bl2.length := fun i hi => by rw [hl2, hr.len]; rcases side_two hsd with e | e <;> rw [e] <;> omega
      refine Wp.loop (ι := Nat) (fun i => [(2, ptrD H.size), (4, ptrD H1.size), (5, ptrD H3.size), (79, I64 (takesN s.kept.length)), (80, I64 i)])
        (fun i A => i ≤ takesN s.kept.length ∧ ∃ O5, SaveI H O k db (H8.size - 2) (putBs bl2 (1 + side * s.room) (fun _ => zeroB) i) (Pw.run (takesN data.length + 1 + i) s.pw) A O5 ∧ SaveL A H.size H1.size sb H3.size H5.size H7.size b side s.kept.length 0 ∧ A[D]? = some (.deferred (some [])) ∧ O5 D ≠ k ∧ (Pw.run (takesN data.length + 1 + i) s.pw).gone = false ∧ H8.size ≤ A.size)
        (fun i => takesN s.kept.length - i) 0 subs ⟨Nat.zero_le _, O4, by rw [putBs_zero]; exact J4, L4, hd4, hD4, hg, n84⟩ ?_
      rintro i B ⟨hi, O5, J5, L5, hd5, hD5, hg5, n85⟩
      have hi : i ≤ takesN s.kept.length := hi
      refine run ?_
      refine Wp.br (fun hlt => ?_) (fun hlt => ?_)
      case refine_2 =>
        have hlt : ¬ (i : Int) < (takesN s.kept.length : Int) := hlt
        have hie : i = takesN s.kept.length := by omega
        refine run ?_
        refine RegS.store (v := IV 0) L5.res.wr ?_
        have cs := hset_chg B ⟨H1.size, 0, none⟩ (IV 0)
        have r3 : Box (hset B ⟨H1.size, 0, none⟩ (IV 0)) H1.size 35 (IV 0) := L5.res.set
        generalize hset B ⟨H1.size, 0, none⟩ (IV 0) = B5 at cs r3 ⊢
        have J6 := SaveI.local (r := H1.size) J5 cs (by omega) (J5.lo _ (by omega) (by omega))
        have hd6 : B5[D]? = some (.deferred (some [])) := (cs.get D (Array.getElem?_eq_some_iff.1 hd5).1 (by simp only; omega)).trans hd5
        have kk := Keep.shut (B := H8.size) hD hd6
        have J7 := J6.keep kk (by omega)
        have e : s.save data = ({ s with kept := data, pw := Pw.run (takesN data.length + 1 + takesN s.kept.length) s.pw }, 0) := by
          rw [Slt.save, if_neg (by omega), if_neg (by rw [hg]; simp), if_neg (by rw [← hie, hg5]; simp)]
        refine run ?_
        rw [e]
        subst hie
        refine retc1d hd6 (r3.keep kk).cell ⟨O5, J7.st, ⟨db, putBs bl2 (1 + side * s.room) (fun _ => zeroB) (takesN s.kept.length), 1 - side, hbs J7.st, J7.st.own hb.lt h0, J7.dk, ?_⟩, rfl⟩
        rw [hbl2, hbase]
        exact hr.turn hg0 (by omega) (Nat.le_refl _) (fun _ => rfl) (run_left hr.left _)
      have hlt : (i : Int) < (takesN s.kept.length : Int) := hlt
      have hix := hidx2 i (by omega)
      have c2c5 := L5.s.cell
      have rb5 := L5.r
      have hbA5 := hbs J5.st
      have h325 : takesN s.kept.length ≤ 512 := by omega
      have hzB : H8.size - 2 + 2 ≤ B.size := by omega
      -- what is left, behind the choice of order
      have fin : ∀ {B1 : Heap} (zs : Sl), Ext B B1 → Bytes B1 zs zeroB → CallsH Tryz.prog 223 [ptrD db, I64 (1 + side * s.room + i), zs.val] B1 fun v B2 => v = I64 (if (Pw.run (takesN data.length + 1 + (i + 1)) s.pw).gone = true then 3 else 0) ∧ ∃ O6, SaveI H O k db (H8.size - 2) (if (Pw.run (takesN data.length + 1 + (i + 1)) s.pw).gone = true then putBs bl2 (1 + side * s.room) (fun _ => zeroB) i else putBs bl2 (1 + side * s.room) (fun _ => zeroB) (i + 1)) (Pw.run (takesN data.length + 1 + (i + 1)) s.pw) B2 O6 ∧
          SaveL B2 H.size H1.size sb H3.size H5.size H7.size b side s.kept.length 0 ∧ B2[D]? = some (.deferred (some [])) ∧ O6 D ≠ k ∧ H8.size ≤ B2.size := by
        intro B1 zs xB hzs
        have JB := J5.ext xB
        have LB := L5.ext xB
        have hdB := xB.blk hd5
        have nB := xB.size
        refine (write_ok (1 + side * s.room + i) zs zeroB (by rw [putBs_length]; exact hix) hzs zeroB_length JB.st.wf JB.dk (run_left hr.left _) hk).mono ?_
        rintro v B2 ⟨O6, st6, d6, rfl⟩
        have hwr2 : (Pw.run (takesN data.length + 1 + i) s.pw).wr = Pw.run (takesN data.length + 1 + (i + 1)) s.pw := rfl
        rw [hwr2, putBs_succ hix] at d6
        rw [hwr2]
        have hDB : D < B1.size := (Array.getElem?_eq_some_iff.1 hdB).1
        exact ⟨rfl, O6, JB.next (by omega) st6 d6, hlocal (fun x h1 h2 => JB.same (by omega) st6 h1 (by omega)) LB, (st6.chg.get D hDB hD5).trans hdB, by rw [st6.agr D hDB]; exact hD5, by have := st6.size; omega⟩
      have stop : ∀ {B2 : Heap} {O6 : Ow}, (Pw.run (takesN data.length + 1 + (i + 1)) s.pw).gone = true → SaveI H O k db (H8.size - 2) (putBs bl2 (1 + side * s.room) (fun _ => zeroB) i) (Pw.run (takesN data.length + 1 + (i + 1)) s.pw) B2 O6 → B2[D]? = some (.deferred (some [])) → ∃ O7, Step (· = k) H O (B2.setIfInBounds D (.deferred none)) O7 ∧ SlotAt (B2.setIfInBounds D (.deferred none)) O7 k sb (s.save data).1 ∧ (s.save data).2 = 3 := by
        intro B2 O6 hg6 J6 hd6
        have kk := Keep.shut (B := H8.size) hD hd6
        have J7 := J6.keep kk (by omega)
        have e0 : Pw.run (takesN data.length + 1 + takesN s.kept.length) s.pw = Pw.run (takesN data.length + 1 + (i + 1)) s.pw := Pw.run_stop hg6 (by omega)
        have e : s.save data = ({ s with kept := data, pw := Pw.run (takesN data.length + 1 + takesN s.kept.length) s.pw }, 3) := by
          rw [Slt.save, if_neg (by omega), if_neg (by rw [hg]; simp), if_pos (by rw [e0]; exact hg6)]
        rw [e]
        refine ⟨O6, J7.st, ⟨db, putBs bl2 (1 + side * s.room) (fun _ => zeroB) i, 1 - side, hbs J7.st, J7.st.own hb.lt h0, by rw [e0]; exact J7.dk, ?_⟩, rfl⟩
        rw [hbl2, hbase, e0]
        exact hr.turn hg0 (by omega) (by omega) (fun h => by rw [hg6] at h; cases h) (run_left hr.left _)
      refine run ?_
      refine RegP.e (RegE.call (block_ok side i hsd (by omega) hroom hbA5) ?_ (RegE.makeSlice (n := 32) ?_ ?_ (fun B1 o1 y1 w1 => ?_) RegE.nil))
      · rintro _ _ ⟨rfl, rfl⟩
        refine ⟨.inl (Ext.refl _), ?_⟩
        refine run ?_
        refine RegP.makeSlice (n := 32) ?_ ?_ (fun B1 o1 y1 w1 => ?_)
        · omega
        · omega
        have rz : Bytes B1 (Sl.fresh B.size 32) zeroB := OwnR.rowF (f := B8) (l := zeroB) (e := 5) (base := B.size) o1
        refine run ?_
        refine RegP.call (fin (Sl.fresh B.size 32) y1 rz) ?_
        rintro _ B2 ⟨rfl, O6, J6, L6, hd6, hD6, n86⟩
        have c2c6 := L6.s.cell
        have rb6 := L6.r
        have hbA6 := hbs J6.st
        refine ⟨.inr proms2, ?_⟩
        cases hg6 : (Pw.run (takesN data.length + 1 + (i + 1)) s.pw).gone with
        | true =>
          rw [hg6] at J6
          simp only [if_true] at J6 ⊢
          refine run ?_
          refine RegS.store (v := IV 3) L6.res.wr ?_
          have cs := hset_chg B2 ⟨H1.size, 0, none⟩ (IV 3)
          have r3 : Box (hset B2 ⟨H1.size, 0, none⟩ (IV 3)) H1.size 35 (IV 3) := L6.res.set
          generalize hset B2 ⟨H1.size, 0, none⟩ (IV 3) = B3 at cs r3 ⊢
          have J7 := SaveI.local (r := H1.size) J6 cs (by omega) (J6.lo _ (by omega) (by omega))
          have hd7 : B3[D]? = some (.deferred (some [])) := (cs.get D (Array.getElem?_eq_some_iff.1 hd6).1 (by simp only; omega)).trans hd6
          obtain ⟨O7, s1, s2, e3⟩ := stop hg6 J7 hd7
          have kk := Keep.shut (B := H8.size) hD hd7
          refine run ?_
          exact retc1d hd7 (r3.keep kk).cell ⟨O7, s1, s2, by rw [e3]; rfl⟩
        | false =>
          rw [hg6] at J6
          simp only [Bool.false_eq_true, if_false] at J6 ⊢
          refine run ?_
          exact roundQ_n (i + 1) subs ⟨by omega, O6, J6, L6, hd6, hD6, hg6, n86⟩ (by omega)
      · omega
      · omega
      · have c2c8 := (L5.ext y1).s.cell
        have rb8 := (L5.ext y1).r
        have hbA8 := hbA5.ext y1
        refine run ?_
        refine RegP.call (block_ok side i hsd (by omega) hroom hbA8) ?_
        rintro _ _ ⟨rfl, rfl⟩
        refine ⟨.inl (Ext.refl _), ?_⟩
        have rz : Bytes B1 (Sl.fresh B.size 32) zeroB := OwnR.rowF (f := B8) (l := zeroB) (e := 5) (base := B.size) o1
        refine run ?_
        refine RegP.call (fin (Sl.fresh B.size 32) y1 rz) ?_
        rintro _ B2 ⟨rfl, O6, J6, L6, hd6, hD6, n86⟩
        have c2c6 := L6.s.cell
        have rb6 := L6.r
        have hbA6 := hbs J6.st
        refine ⟨.inr proms2, ?_⟩
        cases hg6 : (Pw.run (takesN data.length + 1 + (i + 1)) s.pw).gone with
        | true =>
          rw [hg6] at J6
          simp only [if_true] at J6 ⊢
          refine run ?_
          refine RegS.store (v := IV 3) L6.res.wr ?_
          have cs := hset_chg B2 ⟨H1.size, 0, none⟩ (IV 3)
          have r3 : Box (hset B2 ⟨H1.size, 0, none⟩ (IV 3)) H1.size 35 (IV 3) := L6.res.set
          generalize hset B2 ⟨H1.size, 0, none⟩ (IV 3) = B3 at cs r3 ⊢
          have J7 := SaveI.local (r := H1.size) J6 cs (by omega) (J6.lo _ (by omega) (by omega))
          have hd7 : B3[D]? = some (.deferred (some [])) := (cs.get D (Array.getElem?_eq_some_iff.1 hd6).1 (by simp only; omega)).trans hd6
          obtain ⟨O7, s1, s2, e3⟩ := stop hg6 J7 hd7
          have kk := Keep.shut (B := H8.size) hD hd7
          refine run ?_
          exact retc1d hd7 (r3.keep kk).cell ⟨O7, s1, s2, by rw [e3]; rfl⟩
        | false =>
          rw [hg6] at J6
          simp only [Bool.false_eq_true, if_false] at J6 ⊢
          refine run ?_
          exact roundQ_n (i + 1) subs ⟨by omega, O6, J6, L6, hd6, hD6, hg6, n86⟩ (by omega)
  · rintro e A D hD ⟨rfl, O', i, i1, i2, i3, i4⟩ hd
    have kk := Keep.shut (B := H8.size) hD hd
    have i1' := i1.keep kk (by omega)
    have i2' := i2.keep kk
    have e : s.save data = ({ s with pw := Pw.run (takesN data.length + 1) s.pw }, 3) := by
      rw [Slt.save, if_neg (by omega), if_pos]
      rw [Pw.run_stop i3 (by omega)]; exact i3
    refine run ?_
    rw [e]
    refine retc1d hd i2'.res.cell ⟨O', i1'.st, ⟨db, putBs bl base (pieceB data) i, side, hbs i1'.st, i1'.st.own hb.lt h0, ?_, ?_⟩, rfl⟩
    · rw [Pw.run_stop i3 (show i + 1 ≤ takesN data.length + 1 by omega)]; exact i1'.dk
    · rw [Pw.run_stop i3 (show i + 1 ≤ takesN data.length + 1 by omega), hbase]
      exact hr.half (by omega) (pieceB_length data) i3 (run_left hr.left _)
end
end Go.Proofs.YtaikdcnifijcoaaGreat
