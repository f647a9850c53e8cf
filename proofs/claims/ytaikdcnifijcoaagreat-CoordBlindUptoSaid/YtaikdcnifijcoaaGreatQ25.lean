/-
  The walks of package coord: a message, and who is asked.
-/
import Derived.Test.YtaikdcnifijcoaaGreatQ24
set_option linter.unusedVariables false
set_option linter.unusedSimpArgs false
namespace Go.Proofs.YtaikdcnifijcoaaGreat
open Go Go.Vc Go.Gf
variable {H : Heap} {O : Ow} {cb fb bb sb N T K E R : Nat} {down : Bool} {s : Slt} {t : TaskA} {ts : TaskS}
/-- A message of the coordinator's. -/
def msgBase (t : TaskA) (v : BookA) (kind n : Int) : MsgA := ⟨kind, -1, n, t.session, v.decided, v.commit.getD n.toNat 0, v.epoch, v.dir, [], 0, 0, 0, [], [], 0, []⟩
def msgOf (t : TaskA) (v : BookA) (kind n : Int) : MsgA :=
  if kind = 1 then { msgBase t v kind n with src := -2, id := t.head.1, size := t.head.2 } else
  if kind = 3 then { msgBase t v kind n with src := -2, id := t.head.1 } else
  if kind = 7 then { msgBase t v kind n with sort := t.sort, target := t.target, dealers := t.dealers, parts := t.parts } else msgBase t v kind n
structure TaskSm (t : TaskA) : Prop where
  parts : t.parts.length ≤ 2000000
  dealers : t.dealers.length ≤ 2000000
/-- New slices. -/
structure MsgGe (n : Nat) (s : MsgS) : Prop where
  hd : ∀ b, s.hd.blk = some b → n ≤ b
  de : ∀ b, s.de.blk = some b → n ≤ b
  pa : ∀ b, s.pa.blk = some b → n ≤ b
  da : ∀ b, s.da.blk = some b → n ≤ b
theorem MsgGe.mono {m n : Nat} {s : MsgS} (h : MsgGe n s) (hm : m ≤ n) : MsgGe m s := ⟨fun b hb => Nat.le_trans hm (h.hd b hb), fun b hb => Nat.le_trans hm (h.de b hb), fun b hb => Nat.le_trans hm (h.pa b hb), fun b hb => Nat.le_trans hm (h.da b hb)⟩
theorem MsgIn.chgGe {S : Nat → Prop} {A B : Heap} {m : MsgA} {s : MsgS} {n : Nat} (h : MsgIn A m s) (g : MsgGe n s) (c : Chg S A B) (hs : ∀ b, n ≤ b → ¬ S b) : MsgIn B m s :=
  ⟨h.hd.chgN c fun hp b hb => hs b (g.hd b hb), h.de.chgN c fun hp b hb => ⟨h.de.lt hp b hb, hs b (g.de b hb)⟩, h.pa.chgN c fun hp b hb => ⟨h.pa.lt hp b hb, hs b (g.pa b hb)⟩, RowF.chgN h.da c fun hp b hb => ⟨RowF.lt h.da hp b hb, hs b (g.da b hb)⟩⟩
theorem nilGe (n : Nat) : ∀ b, Sl.nil.blk = some b → n ≤ b := fun b hb => by simp [Sl.nil, Sl.blk] at hb
set_option maxHeartbeats 8000000 in
theorem coMessage_ok (v : BookA) (c : BookS) (kind : Int) (n : Nat) (hn : n < v.commit.length) (hdl : v.dir.length ≤ 8) (hw : WfO H O) (h : CoAt H O cb fb bb sb N T K E R down s t ts) (hi : BookIn H v c) (hsm : TaskSm t) :
    CallsH Tryz.prog 160 [ptrD cb, .agg (bookC v c).toArray, IV kind, I64 n] H fun r H' => ∃ ms : MsgS, r = .agg (msgC (msgOf t v kind n) ms).toArray ∧ MsgIn H' (msgOf t v kind n) ms ∧ Ext H H' ∧ MsgGe H.size ms := by
  refine CallsH.enter h160 Tryz.func160 rfl rfl rfl (by decide) fun u => run ?_
  refine RegS.boxA fun H1 x1 z1 b1 => ?_
  have b1 : Blk H1 H.size 55 (bookC v c) := b1
  refine run ?_
  refine RegS.allocA fun H2 x2 z2 b2 => ?_
  have b2 : Blk H2 H1.size 38 (msgC msg0 msgS0) := b2
  have b12 := b1.ext x2
  have x02 := x1.trans x2
  have hb2 := (h.ext hw x02).blk
  have hd2 := hi.dir.ext x02
  have hc2 := hi.com.ext x02
  have low := hi.low
  refine run ?_
  refine RegP.e (RegE.call (cloneH_ok c.dir v.dir H2 hd2 (by omega)) (fun r H3 hr => ?_) (RegE.allocA (fun H3 y3 w3 c3 => ?_) RegE.nil))
  · obtain ⟨w, rfl, hw3, y3, gw⟩ := hr
    have hb3 := hb2.ext y3
    refine ⟨.inl y3, ?_⟩
    refine run ?_
    refine RegP.e (RegE.allocA (fun A yA wA cA => ?_) RegE.nil)
    obtain ⟨nb, hnb0⟩ : ∃ nb, nb = H3.size := ⟨_, rfl⟩
    rw [← hnb0] at cA ⊢
    have kA : Blk A nb 38 (msgC msg0 msgS0) := cA
    have qA := (b2.ext y3).ext yA
    have hbA := hb3.ext yA
    have hwA := hw3.ext yA
    have xA := (x02.trans y3).trans yA
    have hnb : H2.size ≤ nb := by have := y3.size; omega
    have hwg : ∀ b, w.blk = some b → H2.size ≤ b := gw
    have hwn : 0 < w.len → ∀ b, w.blk = some b → b ≠ nb := fun hp b hb => by have := hw3.lt hp b hb; omega
    have z2 := x02.size
    have ltc := h.blk.lt
    have lt1 := b2.lt
    refine run ?_
    refine RegP.storeA (us := msgC (msgBase t v kind n) ⟨w, Sl.nil, Sl.nil, Sl.nil⟩) kA ?_ ?_
    · exact Proms.nil
    have c5 := hsets_chg nb (msgC (msgBase t v kind n) ⟨w, Sl.nil, Sl.nil, Sl.nil⟩) 0 A
    have k5 : Blk (hsets A nb 0 (msgC (msgBase t v kind n) ⟨w, Sl.nil, Sl.nil, Sl.nil⟩)) nb 38 (msgC (msgBase t v kind n) ⟨w, Sl.nil, Sl.nil, Sl.nil⟩) := Blk.sets (msgC (msgBase t v kind n) ⟨w, Sl.nil, Sl.nil, Sl.nil⟩) 0 kA
    have q5 := qA.chg c5 (by omega)
    have hb5 := hbA.chg c5 (by omega)
    have hw5 := hwA.chgN c5 fun hp b hb e => hwn hp b hb e
    have x5 := xA.then c5 fun b hb => by omega
    generalize hsets A nb 0 (msgC (msgBase t v kind n) ⟨w, Sl.nil, Sl.nil, Sl.nil⟩) = A5 at c5 k5 q5 hb5 hw5 x5 ⊢
    refine run ?_
    refine Wp.br (fun hk => ?_) (fun hk => ?_)
    · have hk : kind = 1 := hk
      subst hk
      refine run ?_
      have cc := hset_chg A5 ⟨nb, 1, none⟩ (IV (-2))
      have hb6 := hb5.chg cc (by simp only; omega)
      have q6 := q5.chg cc (by simp only; omega)
      have hw6 := hw5.chgN cc fun hp b hb e => hwn hp b hb e
      have x6 := x5.then cc fun b hb => by simp only at hb; omega
      have k6 : Blk (hset A5 ⟨nb, 1, none⟩ (IV (-2))) nb 38 (msgC ({ msgBase t v 1 n with src := -2 }) ⟨w, Sl.nil, Sl.nil, Sl.nil⟩) := Blk.set (j := 1) (v := IV (-2)) k5
      refine RegP.store (v := IV (-2)) (Blk.wr k5 (j := 1) (by simp)) ?_ ?_
      · exact proms2
      generalize hset A5 ⟨nb, 1, none⟩ (IV (-2)) = A6 at hb6 q6 hw6 x6 k6 ⊢
      clear cc
      refine run ?_
      have cc := hset_chg A6 ⟨nb, 8, none⟩ (S t.head.1)
      have hb7 := hb6.chg cc (by simp only; omega)
      have q7 := q6.chg cc (by simp only; omega)
      have hw7 := hw6.chgN cc fun hp b hb e => hwn hp b hb e
      have x7 := x6.then cc fun b hb => by simp only at hb; omega
      have k7 : Blk (hset A6 ⟨nb, 8, none⟩ (S t.head.1)) nb 38 (msgC ({ msgBase t v 1 n with src := -2, id := t.head.1 }) ⟨w, Sl.nil, Sl.nil, Sl.nil⟩) := Blk.set (j := 8) (v := S t.head.1) k6
      refine RegP.store (v := S t.head.1) (Blk.wr k6 (j := 8) (by simp)) ?_ ?_
      · exact proms2
      generalize hset A6 ⟨nb, 8, none⟩ (S t.head.1) = A7 at hb7 q7 hw7 x7 k7 ⊢
      clear cc
      refine run ?_
      have cc := hset_chg A7 ⟨nb, 9, none⟩ (IV t.head.2)
      have hb8 := hb7.chg cc (by simp only; omega)
      have q8 := q7.chg cc (by simp only; omega)
      have hw8 := hw7.chgN cc fun hp b hb e => hwn hp b hb e
      have x8 := x7.then cc fun b hb => by simp only at hb; omega
      have k8 : Blk (hset A7 ⟨nb, 9, none⟩ (IV t.head.2)) nb 38 (msgC ({ msgBase t v 1 n with src := -2, id := t.head.1, size := t.head.2 }) ⟨w, Sl.nil, Sl.nil, Sl.nil⟩) := Blk.set (j := 9) (v := IV t.head.2) k7
      refine RegP.store (v := IV t.head.2) (Blk.wr k7 (j := 9) (by simp)) ?_ ?_
      · exact proms2
      generalize hset A7 ⟨nb, 9, none⟩ (IV t.head.2) = A8 at hb8 q8 hw8 x8 k8 ⊢
      clear cc
      refine run ?_
      have gB : MsgGe H2.size ⟨w, Sl.nil, Sl.nil, Sl.nil⟩ := ⟨hwg, nilGe _, nilGe _, nilGe _⟩
      have iB : MsgIn A8 ({ msgBase t v 1 n with src := -2, id := t.head.1, size := t.head.2 }) ⟨w, Sl.nil, Sl.nil, Sl.nil⟩ := ⟨hw8, RowF.nil _, RowF.nil _, Bytes.nil _⟩
      refine run ?_
      refine RegS.storeA (us := msgC ({ msgBase t v 1 n with src := -2, id := t.head.1, size := t.head.2 }) ⟨w, Sl.nil, Sl.nil, Sl.nil⟩) q8 ?_
      have c9 := hsets_chg H1.size (msgC ({ msgBase t v 1 n with src := -2, id := t.head.1, size := t.head.2 }) ⟨w, Sl.nil, Sl.nil, Sl.nil⟩) 0 A8
      have b9 : Blk (hsets A8 H1.size 0 (msgC ({ msgBase t v 1 n with src := -2, id := t.head.1, size := t.head.2 }) ⟨w, Sl.nil, Sl.nil, Sl.nil⟩)) H1.size 38 (msgC ({ msgBase t v 1 n with src := -2, id := t.head.1, size := t.head.2 }) ⟨w, Sl.nil, Sl.nil, Sl.nil⟩) := Blk.sets (msgC ({ msgBase t v 1 n with src := -2, id := t.head.1, size := t.head.2 }) ⟨w, Sl.nil, Sl.nil, Sl.nil⟩) 0 q8
      have i9 := iB.chgGe gB c9 fun b hb e => by omega
      have x9 := x8.then c9 fun b hb => by omega
      generalize hsets A8 H1.size 0 (msgC ({ msgBase t v 1 n with src := -2, id := t.head.1, size := t.head.2 }) ⟨w, Sl.nil, Sl.nil, Sl.nil⟩) = B9 at b9 i9 x9 ⊢
      refine run ?_
      have em : msgOf t v 1 n = { msgBase t v 1 n with src := -2, id := t.head.1, size := t.head.2 } := by rw [msgOf, if_pos rfl]
      rw [em]
      exact retA1 b9 ⟨⟨w, Sl.nil, Sl.nil, Sl.nil⟩, rfl, i9, x9, gB.mono (by omega)⟩
    have hk1 : ¬ kind = 1 := hk
    refine run ?_
    refine Wp.br (fun hk => ?_) (fun hk => ?_)
    · have hk : kind = 3 := hk
      subst hk
      refine run ?_
      have cc := hset_chg A5 ⟨nb, 1, none⟩ (IV (-2))
      have hb6 := hb5.chg cc (by simp only; omega)
      have q6 := q5.chg cc (by simp only; omega)
      have hw6 := hw5.chgN cc fun hp b hb e => hwn hp b hb e
      have x6 := x5.then cc fun b hb => by simp only at hb; omega
      have k6 : Blk (hset A5 ⟨nb, 1, none⟩ (IV (-2))) nb 38 (msgC ({ msgBase t v 3 n with src := -2 }) ⟨w, Sl.nil, Sl.nil, Sl.nil⟩) := Blk.set (j := 1) (v := IV (-2)) k5
      refine RegP.store (v := IV (-2)) (Blk.wr k5 (j := 1) (by simp)) ?_ ?_
      · exact proms2
      generalize hset A5 ⟨nb, 1, none⟩ (IV (-2)) = A6 at hb6 q6 hw6 x6 k6 ⊢
      clear cc
      refine run ?_
      have cc := hset_chg A6 ⟨nb, 8, none⟩ (S t.head.1)
      have hb7 := hb6.chg cc (by simp only; omega)
      have q7 := q6.chg cc (by simp only; omega)
      have hw7 := hw6.chgN cc fun hp b hb e => hwn hp b hb e
      have x7 := x6.then cc fun b hb => by simp only at hb; omega
      have k7 : Blk (hset A6 ⟨nb, 8, none⟩ (S t.head.1)) nb 38 (msgC ({ msgBase t v 3 n with src := -2, id := t.head.1 }) ⟨w, Sl.nil, Sl.nil, Sl.nil⟩) := Blk.set (j := 8) (v := S t.head.1) k6
      refine RegP.store (v := S t.head.1) (Blk.wr k6 (j := 8) (by simp)) ?_ ?_
      · exact proms2
      generalize hset A6 ⟨nb, 8, none⟩ (S t.head.1) = A7 at hb7 q7 hw7 x7 k7 ⊢
      clear cc
      refine run ?_
      have gB : MsgGe H2.size ⟨w, Sl.nil, Sl.nil, Sl.nil⟩ := ⟨hwg, nilGe _, nilGe _, nilGe _⟩
      have iB : MsgIn A7 ({ msgBase t v 3 n with src := -2, id := t.head.1 }) ⟨w, Sl.nil, Sl.nil, Sl.nil⟩ := ⟨hw7, RowF.nil _, RowF.nil _, Bytes.nil _⟩
      refine run ?_
      refine RegS.storeA (us := msgC ({ msgBase t v 3 n with src := -2, id := t.head.1 }) ⟨w, Sl.nil, Sl.nil, Sl.nil⟩) q7 ?_
      have c9 := hsets_chg H1.size (msgC ({ msgBase t v 3 n with src := -2, id := t.head.1 }) ⟨w, Sl.nil, Sl.nil, Sl.nil⟩) 0 A7
      have b9 : Blk (hsets A7 H1.size 0 (msgC ({ msgBase t v 3 n with src := -2, id := t.head.1 }) ⟨w, Sl.nil, Sl.nil, Sl.nil⟩)) H1.size 38 (msgC ({ msgBase t v 3 n with src := -2, id := t.head.1 }) ⟨w, Sl.nil, Sl.nil, Sl.nil⟩) := Blk.sets (msgC ({ msgBase t v 3 n with src := -2, id := t.head.1 }) ⟨w, Sl.nil, Sl.nil, Sl.nil⟩) 0 q7
      have i9 := iB.chgGe gB c9 fun b hb e => by omega
      have x9 := x7.then c9 fun b hb => by omega
      generalize hsets A7 H1.size 0 (msgC ({ msgBase t v 3 n with src := -2, id := t.head.1 }) ⟨w, Sl.nil, Sl.nil, Sl.nil⟩) = B9 at b9 i9 x9 ⊢
      refine run ?_
      have em : msgOf t v 3 n = { msgBase t v 3 n with src := -2, id := t.head.1 } := by rw [msgOf, if_neg (by decide), if_pos rfl]
      rw [em]
      exact retA1 b9 ⟨⟨w, Sl.nil, Sl.nil, Sl.nil⟩, rfl, i9, x9, gB.mono (by omega)⟩
    have hk3 : ¬ kind = 3 := hk
    have hde5 := h.task.dealers.row.ext x5
    have hpa5 := h.task.parts.row.ext x5
    have hsd := hsm.dealers
    have hsp := hsm.parts
    refine run ?_
    refine Wp.br (fun hk => ?_) (fun hk => ?_)
    · have hk : kind = 7 := hk
      subst hk
      refine run ?_
      refine RegP.call (cloneI_ok ts.dealers t.dealers A5 hde5 hsd) ?_
      rintro _ D1 ⟨w1, rfl, hw1, y1, gw1⟩
      have hbD1 := hb5.ext y1
      have hpaD := hpa5.ext y1
      refine ⟨.inl y1, ?_⟩
      refine run ?_
      refine RegP.call (cloneI_ok ts.parts t.parts D1 hpaD hsp) ?_
      rintro _ D2 ⟨w2, rfl, hw2, y2, gw2⟩
      have hbD2 := hbD1.ext y2
      refine ⟨.inl y2, ?_⟩
      refine run ?_
      have y12 := y1.trans y2
      have kD := k5.ext y12
      have qD := q5.ext y12
      have hwD := hw5.ext y12
      have hd1 := hw1.ext y2
      have xD := x5.trans y12
      have zy1 := y1.size
      have zx5 := k5.lt
      have zq5 := x5.size
      have zA5 : H2.size ≤ A5.size := by omega
      have n1 : 0 < w1.len → ∀ b, w1.blk = some b → b ≠ nb := fun hp b hb => by have := gw1 b hb; omega
      have n2 : 0 < w2.len → ∀ b, w2.blk = some b → b ≠ nb := fun hp b hb => by have := gw2 b hb; omega
      have cc := hset_chg D2 ⟨nb, 10, none⟩ (IV t.sort)
      have hb6 := hbD2.chg cc (by simp only; omega)
      have q6 := qD.chg cc (by simp only; omega)
      have hw6 := hwD.chgN cc fun hp b hb e => hwn hp b hb e
      have x6 := xD.then cc fun b hb => by simp only at hb; omega
      have k6 : Blk (hset D2 ⟨nb, 10, none⟩ (IV t.sort)) nb 38 (msgC ({ msgBase t v 7 n with sort := t.sort }) ⟨w, Sl.nil, Sl.nil, Sl.nil⟩) := Blk.set (j := 10) (v := IV t.sort) kD
      have hd6 := hd1.chgN cc fun hp b hb => ⟨hd1.lt hp b hb, fun e => n1 hp b hb e⟩
      have hp6 := hw2.chgN cc fun hp b hb => ⟨hw2.lt hp b hb, fun e => n2 hp b hb e⟩
      refine RegP.store (v := IV t.sort) (Blk.wr kD (j := 10) (by simp)) ?_ ?_
      · exact proms2
      generalize hset D2 ⟨nb, 10, none⟩ (IV t.sort) = D3 at hb6 q6 hw6 x6 k6 hd6 hp6 ⊢
      clear cc
      refine run ?_
      have cc := hset_chg D3 ⟨nb, 11, none⟩ (IV t.target)
      have hb7 := hb6.chg cc (by simp only; omega)
      have q7 := q6.chg cc (by simp only; omega)
      have hw7 := hw6.chgN cc fun hp b hb e => hwn hp b hb e
      have x7 := x6.then cc fun b hb => by simp only at hb; omega
      have k7 : Blk (hset D3 ⟨nb, 11, none⟩ (IV t.target)) nb 38 (msgC ({ msgBase t v 7 n with sort := t.sort, target := t.target }) ⟨w, Sl.nil, Sl.nil, Sl.nil⟩) := Blk.set (j := 11) (v := IV t.target) k6
      have hd7 := hd6.chgN cc fun hp b hb => ⟨hd6.lt hp b hb, fun e => n1 hp b hb e⟩
      have hp7 := hp6.chgN cc fun hp b hb => ⟨hp6.lt hp b hb, fun e => n2 hp b hb e⟩
      refine RegP.store (v := IV t.target) (Blk.wr k6 (j := 11) (by simp)) ?_ ?_
      · exact proms2
      generalize hset D3 ⟨nb, 11, none⟩ (IV t.target) = D4 at hb7 q7 hw7 x7 k7 hd7 hp7 ⊢
      clear cc
      refine run ?_
      have cc := hset_chg D4 ⟨nb, 12, none⟩ (w1.val)
      have hb8 := hb7.chg cc (by simp only; omega)
      have q8 := q7.chg cc (by simp only; omega)
      have hw8 := hw7.chgN cc fun hp b hb e => hwn hp b hb e
      have x8 := x7.then cc fun b hb => by simp only at hb; omega
      have k8 : Blk (hset D4 ⟨nb, 12, none⟩ (w1.val)) nb 38 (msgC ({ msgBase t v 7 n with sort := t.sort, target := t.target, dealers := t.dealers }) ⟨w, w1, Sl.nil, Sl.nil⟩) := Blk.set (j := 12) (v := w1.val) k7
      have hd8 := hd7.chgN cc fun hp b hb => ⟨hd7.lt hp b hb, fun e => n1 hp b hb e⟩
      have hp8 := hp7.chgN cc fun hp b hb => ⟨hp7.lt hp b hb, fun e => n2 hp b hb e⟩
      refine RegP.store (v := w1.val) (Blk.wr k7 (j := 12) (by simp)) ?_ ?_
      · exact proms2
      generalize hset D4 ⟨nb, 12, none⟩ (w1.val) = D5 at hb8 q8 hw8 x8 k8 hd8 hp8 ⊢
      clear cc
      refine run ?_
      have cc := hset_chg D5 ⟨nb, 13, none⟩ (w2.val)
      have hb9 := hb8.chg cc (by simp only; omega)
      have q9 := q8.chg cc (by simp only; omega)
      have hw9 := hw8.chgN cc fun hp b hb e => hwn hp b hb e
      have x9 := x8.then cc fun b hb => by simp only at hb; omega
      have k9 : Blk (hset D5 ⟨nb, 13, none⟩ (w2.val)) nb 38 (msgC ({ msgBase t v 7 n with sort := t.sort, target := t.target, dealers := t.dealers, parts := t.parts }) ⟨w, w1, w2, Sl.nil⟩) := Blk.set (j := 13) (v := w2.val) k8
      have hd9 := hd8.chgN cc fun hp b hb => ⟨hd8.lt hp b hb, fun e => n1 hp b hb e⟩
      have hp9 := hp8.chgN cc fun hp b hb => ⟨hp8.lt hp b hb, fun e => n2 hp b hb e⟩
      refine RegP.store (v := w2.val) (Blk.wr k8 (j := 13) (by simp)) ?_ ?_
      · exact proms2
      generalize hset D5 ⟨nb, 13, none⟩ (w2.val) = D6 at hb9 q9 hw9 x9 k9 hd9 hp9 ⊢
      clear cc
      refine run ?_
      have gB : MsgGe H2.size ⟨w, w1, w2, Sl.nil⟩ := ⟨hwg, fun b hb => by have := gw1 b hb; omega, fun b hb => by have := gw2 b hb; omega, nilGe _⟩
      have iB : MsgIn D6 ({ msgBase t v 7 n with sort := t.sort, target := t.target, dealers := t.dealers, parts := t.parts }) ⟨w, w1, w2, Sl.nil⟩ := ⟨hw9, hd9, hp9, Bytes.nil _⟩
      refine run ?_
      refine RegS.storeA (us := msgC ({ msgBase t v 7 n with sort := t.sort, target := t.target, dealers := t.dealers, parts := t.parts }) ⟨w, w1, w2, Sl.nil⟩) q9 ?_
      have c9 := hsets_chg H1.size (msgC ({ msgBase t v 7 n with sort := t.sort, target := t.target, dealers := t.dealers, parts := t.parts }) ⟨w, w1, w2, Sl.nil⟩) 0 D6
      have b9 : Blk (hsets D6 H1.size 0 (msgC ({ msgBase t v 7 n with sort := t.sort, target := t.target, dealers := t.dealers, parts := t.parts }) ⟨w, w1, w2, Sl.nil⟩)) H1.size 38 (msgC ({ msgBase t v 7 n with sort := t.sort, target := t.target, dealers := t.dealers, parts := t.parts }) ⟨w, w1, w2, Sl.nil⟩) := Blk.sets (msgC ({ msgBase t v 7 n with sort := t.sort, target := t.target, dealers := t.dealers, parts := t.parts }) ⟨w, w1, w2, Sl.nil⟩) 0 q9
      have i9 := iB.chgGe gB c9 fun b hb e => by omega
      have x9 := x9.then c9 fun b hb => by omega
      generalize hsets D6 H1.size 0 (msgC ({ msgBase t v 7 n with sort := t.sort, target := t.target, dealers := t.dealers, parts := t.parts }) ⟨w, w1, w2, Sl.nil⟩) = B9 at b9 i9 x9 ⊢
      refine run ?_
      have em : msgOf t v 7 n = { msgBase t v 7 n with sort := t.sort, target := t.target, dealers := t.dealers, parts := t.parts } := by rw [msgOf, if_neg (by decide), if_neg (by decide), if_pos rfl]
      rw [em]
      exact retA1 b9 ⟨⟨w, w1, w2, Sl.nil⟩, rfl, i9, x9, gB.mono (by omega)⟩
    have hk7 : ¬ kind = 7 := hk
    have gB : MsgGe H2.size ⟨w, Sl.nil, Sl.nil, Sl.nil⟩ := ⟨hwg, nilGe _, nilGe _, nilGe _⟩
    have iB : MsgIn A5 (msgBase t v kind n) ⟨w, Sl.nil, Sl.nil, Sl.nil⟩ := ⟨hw5, RowF.nil _, RowF.nil _, Bytes.nil _⟩
    refine run ?_
    refine RegS.storeA (us := msgC (msgBase t v kind n) ⟨w, Sl.nil, Sl.nil, Sl.nil⟩) q5 ?_
    have c9 := hsets_chg H1.size (msgC (msgBase t v kind n) ⟨w, Sl.nil, Sl.nil, Sl.nil⟩) 0 A5
    have b9 : Blk (hsets A5 H1.size 0 (msgC (msgBase t v kind n) ⟨w, Sl.nil, Sl.nil, Sl.nil⟩)) H1.size 38 (msgC (msgBase t v kind n) ⟨w, Sl.nil, Sl.nil, Sl.nil⟩) := Blk.sets (msgC (msgBase t v kind n) ⟨w, Sl.nil, Sl.nil, Sl.nil⟩) 0 q5
    have i9 := iB.chgGe gB c9 fun b hb e => by omega
    have x9 := x5.then c9 fun b hb => by omega
    generalize hsets A5 H1.size 0 (msgC (msgBase t v kind n) ⟨w, Sl.nil, Sl.nil, Sl.nil⟩) = B9 at b9 i9 x9 ⊢
    refine run ?_
    have em : msgOf t v kind n = msgBase t v kind n := by rw [msgOf, if_neg hk1, if_neg hk3, if_neg hk7]
    rw [em]
    exact retA1 b9 ⟨⟨w, Sl.nil, Sl.nil, Sl.nil⟩, rfl, i9, x9, gB.mono (by omega)⟩
  · have hb3 := hb2.ext y3
    have hd3 := hd2.ext y3
    refine run ?_
    refine RegP.e (RegE.call (cloneH_ok c.dir v.dir H3 hd3 (by omega)) (fun r A hr => ?_) RegE.nil)
    obtain ⟨w, rfl, hwA, yA, gw⟩ := hr
    refine ⟨.inl yA, ?_⟩
    obtain ⟨nb, hnb0⟩ : ∃ nb, nb = H2.size := ⟨_, rfl⟩
    rw [← hnb0] at c3 ⊢
    have kA : Blk A nb 38 (msgC msg0 msgS0) := Blk.ext c3 yA
    have qA := (b2.ext y3).ext yA
    have hbA := hb3.ext yA
    have xA := (x02.trans y3).trans yA
    have hnb : H2.size ≤ nb := by omega
    have hwg : ∀ b, w.blk = some b → H2.size ≤ b := fun b hb => by have := gw b hb; have := y3.size; omega
    have hwn : 0 < w.len → ∀ b, w.blk = some b → b ≠ nb := fun hp b hb => by have := gw b hb; omega
    have z2 := x02.size
    have ltc := h.blk.lt
    have lt1 := b2.lt
    refine run ?_
    refine RegP.storeA (us := msgC (msgBase t v kind n) ⟨w, Sl.nil, Sl.nil, Sl.nil⟩) kA ?_ ?_
    · exact Proms.nil
    have c5 := hsets_chg nb (msgC (msgBase t v kind n) ⟨w, Sl.nil, Sl.nil, Sl.nil⟩) 0 A
    have k5 : Blk (hsets A nb 0 (msgC (msgBase t v kind n) ⟨w, Sl.nil, Sl.nil, Sl.nil⟩)) nb 38 (msgC (msgBase t v kind n) ⟨w, Sl.nil, Sl.nil, Sl.nil⟩) := Blk.sets (msgC (msgBase t v kind n) ⟨w, Sl.nil, Sl.nil, Sl.nil⟩) 0 kA
    have q5 := qA.chg c5 (by omega)
    have hb5 := hbA.chg c5 (by omega)
    have hw5 := hwA.chgN c5 fun hp b hb e => hwn hp b hb e
    have x5 := xA.then c5 fun b hb => by omega
    generalize hsets A nb 0 (msgC (msgBase t v kind n) ⟨w, Sl.nil, Sl.nil, Sl.nil⟩) = A5 at c5 k5 q5 hb5 hw5 x5 ⊢
    refine run ?_
    refine Wp.br (fun hk => ?_) (fun hk => ?_)
    · have hk : kind = 1 := hk
      subst hk
      refine run ?_
      have cc := hset_chg A5 ⟨nb, 1, none⟩ (IV (-2))
      have hb6 := hb5.chg cc (by simp only; omega)
      have q6 := q5.chg cc (by simp only; omega)
      have hw6 := hw5.chgN cc fun hp b hb e => hwn hp b hb e
      have x6 := x5.then cc fun b hb => by simp only at hb; omega
      have k6 : Blk (hset A5 ⟨nb, 1, none⟩ (IV (-2))) nb 38 (msgC ({ msgBase t v 1 n with src := -2 }) ⟨w, Sl.nil, Sl.nil, Sl.nil⟩) := Blk.set (j := 1) (v := IV (-2)) k5
      refine RegP.store (v := IV (-2)) (Blk.wr k5 (j := 1) (by simp)) ?_ ?_
      · exact proms2
      generalize hset A5 ⟨nb, 1, none⟩ (IV (-2)) = A6 at hb6 q6 hw6 x6 k6 ⊢
      clear cc
      refine run ?_
      have cc := hset_chg A6 ⟨nb, 8, none⟩ (S t.head.1)
      have hb7 := hb6.chg cc (by simp only; omega)
      have q7 := q6.chg cc (by simp only; omega)
      have hw7 := hw6.chgN cc fun hp b hb e => hwn hp b hb e
      have x7 := x6.then cc fun b hb => by simp only at hb; omega
      have k7 : Blk (hset A6 ⟨nb, 8, none⟩ (S t.head.1)) nb 38 (msgC ({ msgBase t v 1 n with src := -2, id := t.head.1 }) ⟨w, Sl.nil, Sl.nil, Sl.nil⟩) := Blk.set (j := 8) (v := S t.head.1) k6
      refine RegP.store (v := S t.head.1) (Blk.wr k6 (j := 8) (by simp)) ?_ ?_
      · exact proms2
      generalize hset A6 ⟨nb, 8, none⟩ (S t.head.1) = A7 at hb7 q7 hw7 x7 k7 ⊢
      clear cc
      refine run ?_
      have cc := hset_chg A7 ⟨nb, 9, none⟩ (IV t.head.2)
      have hb8 := hb7.chg cc (by simp only; omega)
      have q8 := q7.chg cc (by simp only; omega)
      have hw8 := hw7.chgN cc fun hp b hb e => hwn hp b hb e
      have x8 := x7.then cc fun b hb => by simp only at hb; omega
      have k8 : Blk (hset A7 ⟨nb, 9, none⟩ (IV t.head.2)) nb 38 (msgC ({ msgBase t v 1 n with src := -2, id := t.head.1, size := t.head.2 }) ⟨w, Sl.nil, Sl.nil, Sl.nil⟩) := Blk.set (j := 9) (v := IV t.head.2) k7
      refine RegP.store (v := IV t.head.2) (Blk.wr k7 (j := 9) (by simp)) ?_ ?_
      · exact proms2
      generalize hset A7 ⟨nb, 9, none⟩ (IV t.head.2) = A8 at hb8 q8 hw8 x8 k8 ⊢
      clear cc
      refine run ?_
      have gB : MsgGe H2.size ⟨w, Sl.nil, Sl.nil, Sl.nil⟩ := ⟨hwg, nilGe _, nilGe _, nilGe _⟩
      have iB : MsgIn A8 ({ msgBase t v 1 n with src := -2, id := t.head.1, size := t.head.2 }) ⟨w, Sl.nil, Sl.nil, Sl.nil⟩ := ⟨hw8, RowF.nil _, RowF.nil _, Bytes.nil _⟩
      refine run ?_
      refine RegS.storeA (us := msgC ({ msgBase t v 1 n with src := -2, id := t.head.1, size := t.head.2 }) ⟨w, Sl.nil, Sl.nil, Sl.nil⟩) q8 ?_
      have c9 := hsets_chg H1.size (msgC ({ msgBase t v 1 n with src := -2, id := t.head.1, size := t.head.2 }) ⟨w, Sl.nil, Sl.nil, Sl.nil⟩) 0 A8
      have b9 : Blk (hsets A8 H1.size 0 (msgC ({ msgBase t v 1 n with src := -2, id := t.head.1, size := t.head.2 }) ⟨w, Sl.nil, Sl.nil, Sl.nil⟩)) H1.size 38 (msgC ({ msgBase t v 1 n with src := -2, id := t.head.1, size := t.head.2 }) ⟨w, Sl.nil, Sl.nil, Sl.nil⟩) := Blk.sets (msgC ({ msgBase t v 1 n with src := -2, id := t.head.1, size := t.head.2 }) ⟨w, Sl.nil, Sl.nil, Sl.nil⟩) 0 q8
      have i9 := iB.chgGe gB c9 fun b hb e => by omega
      have x9 := x8.then c9 fun b hb => by omega
      generalize hsets A8 H1.size 0 (msgC ({ msgBase t v 1 n with src := -2, id := t.head.1, size := t.head.2 }) ⟨w, Sl.nil, Sl.nil, Sl.nil⟩) = B9 at b9 i9 x9 ⊢
      refine run ?_
      have em : msgOf t v 1 n = { msgBase t v 1 n with src := -2, id := t.head.1, size := t.head.2 } := by rw [msgOf, if_pos rfl]
      rw [em]
      exact retA1 b9 ⟨⟨w, Sl.nil, Sl.nil, Sl.nil⟩, rfl, i9, x9, gB.mono (by omega)⟩
    have hk1 : ¬ kind = 1 := hk
    refine run ?_
    refine Wp.br (fun hk => ?_) (fun hk => ?_)
    · have hk : kind = 3 := hk
      subst hk
      refine run ?_
      have cc := hset_chg A5 ⟨nb, 1, none⟩ (IV (-2))
      have hb6 := hb5.chg cc (by simp only; omega)
      have q6 := q5.chg cc (by simp only; omega)
      have hw6 := hw5.chgN cc fun hp b hb e => hwn hp b hb e
      have x6 := x5.then cc fun b hb => by simp only at hb; omega
      have k6 : Blk (hset A5 ⟨nb, 1, none⟩ (IV (-2))) nb 38 (msgC ({ msgBase t v 3 n with src := -2 }) ⟨w, Sl.nil, Sl.nil, Sl.nil⟩) := Blk.set (j := 1) (v := IV (-2)) k5
      refine RegP.store (v := IV (-2)) (Blk.wr k5 (j := 1) (by simp)) ?_ ?_
      · exact proms2
      generalize hset A5 ⟨nb, 1, none⟩ (IV (-2)) = A6 at hb6 q6 hw6 x6 k6 ⊢
      clear cc
      refine run ?_
      have cc := hset_chg A6 ⟨nb, 8, none⟩ (S t.head.1)
      have hb7 := hb6.chg cc (by simp only; omega)
      have q7 := q6.chg cc (by simp only; omega)
      have hw7 := hw6.chgN cc fun hp b hb e => hwn hp b hb e
      have x7 := x6.then cc fun b hb => by simp only at hb; omega
      have k7 : Blk (hset A6 ⟨nb, 8, none⟩ (S t.head.1)) nb 38 (msgC ({ msgBase t v 3 n with src := -2, id := t.head.1 }) ⟨w, Sl.nil, Sl.nil, Sl.nil⟩) := Blk.set (j := 8) (v := S t.head.1) k6
      refine RegP.store (v := S t.head.1) (Blk.wr k6 (j := 8) (by simp)) ?_ ?_
      · exact proms2
      generalize hset A6 ⟨nb, 8, none⟩ (S t.head.1) = A7 at hb7 q7 hw7 x7 k7 ⊢
      clear cc
      refine run ?_
      have gB : MsgGe H2.size ⟨w, Sl.nil, Sl.nil, Sl.nil⟩ := ⟨hwg, nilGe _, nilGe _, nilGe _⟩
      have iB : MsgIn A7 ({ msgBase t v 3 n with src := -2, id := t.head.1 }) ⟨w, Sl.nil, Sl.nil, Sl.nil⟩ := ⟨hw7, RowF.nil _, RowF.nil _, Bytes.nil _⟩
      refine run ?_
      refine RegS.storeA (us := msgC ({ msgBase t v 3 n with src := -2, id := t.head.1 }) ⟨w, Sl.nil, Sl.nil, Sl.nil⟩) q7 ?_
      have c9 := hsets_chg H1.size (msgC ({ msgBase t v 3 n with src := -2, id := t.head.1 }) ⟨w, Sl.nil, Sl.nil, Sl.nil⟩) 0 A7
      have b9 : Blk (hsets A7 H1.size 0 (msgC ({ msgBase t v 3 n with src := -2, id := t.head.1 }) ⟨w, Sl.nil, Sl.nil, Sl.nil⟩)) H1.size 38 (msgC ({ msgBase t v 3 n with src := -2, id := t.head.1 }) ⟨w, Sl.nil, Sl.nil, Sl.nil⟩) := Blk.sets (msgC ({ msgBase t v 3 n with src := -2, id := t.head.1 }) ⟨w, Sl.nil, Sl.nil, Sl.nil⟩) 0 q7
      have i9 := iB.chgGe gB c9 fun b hb e => by omega
      have x9 := x7.then c9 fun b hb => by omega
      generalize hsets A7 H1.size 0 (msgC ({ msgBase t v 3 n with src := -2, id := t.head.1 }) ⟨w, Sl.nil, Sl.nil, Sl.nil⟩) = B9 at b9 i9 x9 ⊢
      refine run ?_
      have em : msgOf t v 3 n = { msgBase t v 3 n with src := -2, id := t.head.1 } := by rw [msgOf, if_neg (by decide), if_pos rfl]
      rw [em]
      exact retA1 b9 ⟨⟨w, Sl.nil, Sl.nil, Sl.nil⟩, rfl, i9, x9, gB.mono (by omega)⟩
    have hk3 : ¬ kind = 3 := hk
    have hde5 := h.task.dealers.row.ext x5
    have hpa5 := h.task.parts.row.ext x5
    have hsd := hsm.dealers
    have hsp := hsm.parts
    refine run ?_
    refine Wp.br (fun hk => ?_) (fun hk => ?_)
    · have hk : kind = 7 := hk
      subst hk
      refine run ?_
      refine RegP.call (cloneI_ok ts.dealers t.dealers A5 hde5 hsd) ?_
      rintro _ D1 ⟨w1, rfl, hw1, y1, gw1⟩
      have hbD1 := hb5.ext y1
      have hpaD := hpa5.ext y1
      refine ⟨.inl y1, ?_⟩
      refine run ?_
      refine RegP.call (cloneI_ok ts.parts t.parts D1 hpaD hsp) ?_
      rintro _ D2 ⟨w2, rfl, hw2, y2, gw2⟩
      have hbD2 := hbD1.ext y2
      refine ⟨.inl y2, ?_⟩
      refine run ?_
      have y12 := y1.trans y2
      have kD := k5.ext y12
      have qD := q5.ext y12
      have hwD := hw5.ext y12
      have hd1 := hw1.ext y2
      have xD := x5.trans y12
      have zy1 := y1.size
      have zx5 := k5.lt
      have zq5 := x5.size
      have zA5 : H2.size ≤ A5.size := by omega
      have n1 : 0 < w1.len → ∀ b, w1.blk = some b → b ≠ nb := fun hp b hb => by have := gw1 b hb; omega
      have n2 : 0 < w2.len → ∀ b, w2.blk = some b → b ≠ nb := fun hp b hb => by have := gw2 b hb; omega
      have cc := hset_chg D2 ⟨nb, 10, none⟩ (IV t.sort)
      have hb6 := hbD2.chg cc (by simp only; omega)
      have q6 := qD.chg cc (by simp only; omega)
      have hw6 := hwD.chgN cc fun hp b hb e => hwn hp b hb e
      have x6 := xD.then cc fun b hb => by simp only at hb; omega
      have k6 : Blk (hset D2 ⟨nb, 10, none⟩ (IV t.sort)) nb 38 (msgC ({ msgBase t v 7 n with sort := t.sort }) ⟨w, Sl.nil, Sl.nil, Sl.nil⟩) := Blk.set (j := 10) (v := IV t.sort) kD
      have hd6 := hd1.chgN cc fun hp b hb => ⟨hd1.lt hp b hb, fun e => n1 hp b hb e⟩
      have hp6 := hw2.chgN cc fun hp b hb => ⟨hw2.lt hp b hb, fun e => n2 hp b hb e⟩
      refine RegP.store (v := IV t.sort) (Blk.wr kD (j := 10) (by simp)) ?_ ?_
      · exact proms2
      generalize hset D2 ⟨nb, 10, none⟩ (IV t.sort) = D3 at hb6 q6 hw6 x6 k6 hd6 hp6 ⊢
      clear cc
      refine run ?_
      have cc := hset_chg D3 ⟨nb, 11, none⟩ (IV t.target)
      have hb7 := hb6.chg cc (by simp only; omega)
      have q7 := q6.chg cc (by simp only; omega)
      have hw7 := hw6.chgN cc fun hp b hb e => hwn hp b hb e
      have x7 := x6.then cc fun b hb => by simp only at hb; omega
      have k7 : Blk (hset D3 ⟨nb, 11, none⟩ (IV t.target)) nb 38 (msgC ({ msgBase t v 7 n with sort := t.sort, target := t.target }) ⟨w, Sl.nil, Sl.nil, Sl.nil⟩) := Blk.set (j := 11) (v := IV t.target) k6
      have hd7 := hd6.chgN cc fun hp b hb => ⟨hd6.lt hp b hb, fun e => n1 hp b hb e⟩
      have hp7 := hp6.chgN cc fun hp b hb => ⟨hp6.lt hp b hb, fun e => n2 hp b hb e⟩
      refine RegP.store (v := IV t.target) (Blk.wr k6 (j := 11) (by simp)) ?_ ?_
      · exact proms2
      generalize hset D3 ⟨nb, 11, none⟩ (IV t.target) = D4 at hb7 q7 hw7 x7 k7 hd7 hp7 ⊢
      clear cc
      refine run ?_
      have cc := hset_chg D4 ⟨nb, 12, none⟩ (w1.val)
      have hb8 := hb7.chg cc (by simp only; omega)
      have q8 := q7.chg cc (by simp only; omega)
      have hw8 := hw7.chgN cc fun hp b hb e => hwn hp b hb e
      have x8 := x7.then cc fun b hb => by simp only at hb; omega
      have k8 : Blk (hset D4 ⟨nb, 12, none⟩ (w1.val)) nb 38 (msgC ({ msgBase t v 7 n with sort := t.sort, target := t.target, dealers := t.dealers }) ⟨w, w1, Sl.nil, Sl.nil⟩) := Blk.set (j := 12) (v := w1.val) k7
      have hd8 := hd7.chgN cc fun hp b hb => ⟨hd7.lt hp b hb, fun e => n1 hp b hb e⟩
      have hp8 := hp7.chgN cc fun hp b hb => ⟨hp7.lt hp b hb, fun e => n2 hp b hb e⟩
      refine RegP.store (v := w1.val) (Blk.wr k7 (j := 12) (by simp)) ?_ ?_
      · exact proms2
      generalize hset D4 ⟨nb, 12, none⟩ (w1.val) = D5 at hb8 q8 hw8 x8 k8 hd8 hp8 ⊢
      clear cc
      refine run ?_
      have cc := hset_chg D5 ⟨nb, 13, none⟩ (w2.val)
      have hb9 := hb8.chg cc (by simp only; omega)
      have q9 := q8.chg cc (by simp only; omega)
      have hw9 := hw8.chgN cc fun hp b hb e => hwn hp b hb e
      have x9 := x8.then cc fun b hb => by simp only at hb; omega
      have k9 : Blk (hset D5 ⟨nb, 13, none⟩ (w2.val)) nb 38 (msgC ({ msgBase t v 7 n with sort := t.sort, target := t.target, dealers := t.dealers, parts := t.parts }) ⟨w, w1, w2, Sl.nil⟩) := Blk.set (j := 13) (v := w2.val) k8
      have hd9 := hd8.chgN cc fun hp b hb => ⟨hd8.lt hp b hb, fun e => n1 hp b hb e⟩
      have hp9 := hp8.chgN cc fun hp b hb => ⟨hp8.lt hp b hb, fun e => n2 hp b hb e⟩
      refine RegP.store (v := w2.val) (Blk.wr k8 (j := 13) (by simp)) ?_ ?_
      · exact proms2
      generalize hset D5 ⟨nb, 13, none⟩ (w2.val) = D6 at hb9 q9 hw9 x9 k9 hd9 hp9 ⊢
      clear cc
      refine run ?_
      have gB : MsgGe H2.size ⟨w, w1, w2, Sl.nil⟩ := ⟨hwg, fun b hb => by have := gw1 b hb; omega, fun b hb => by have := gw2 b hb; omega, nilGe _⟩
      have iB : MsgIn D6 ({ msgBase t v 7 n with sort := t.sort, target := t.target, dealers := t.dealers, parts := t.parts }) ⟨w, w1, w2, Sl.nil⟩ := ⟨hw9, hd9, hp9, Bytes.nil _⟩
      refine run ?_
      refine RegS.storeA (us := msgC ({ msgBase t v 7 n with sort := t.sort, target := t.target, dealers := t.dealers, parts := t.parts }) ⟨w, w1, w2, Sl.nil⟩) q9 ?_
      have c9 := hsets_chg H1.size (msgC ({ msgBase t v 7 n with sort := t.sort, target := t.target, dealers := t.dealers, parts := t.parts }) ⟨w, w1, w2, Sl.nil⟩) 0 D6
      have b9 : Blk (hsets D6 H1.size 0 (msgC ({ msgBase t v 7 n with sort := t.sort, target := t.target, dealers := t.dealers, parts := t.parts }) ⟨w, w1, w2, Sl.nil⟩)) H1.size 38 (msgC ({ msgBase t v 7 n with sort := t.sort, target := t.target, dealers := t.dealers, parts := t.parts }) ⟨w, w1, w2, Sl.nil⟩) := Blk.sets (msgC ({ msgBase t v 7 n with sort := t.sort, target := t.target, dealers := t.dealers, parts := t.parts }) ⟨w, w1, w2, Sl.nil⟩) 0 q9
      have i9 := iB.chgGe gB c9 fun b hb e => by omega
      have x9 := x9.then c9 fun b hb => by omega
      generalize hsets D6 H1.size 0 (msgC ({ msgBase t v 7 n with sort := t.sort, target := t.target, dealers := t.dealers, parts := t.parts }) ⟨w, w1, w2, Sl.nil⟩) = B9 at b9 i9 x9 ⊢
      refine run ?_
      have em : msgOf t v 7 n = { msgBase t v 7 n with sort := t.sort, target := t.target, dealers := t.dealers, parts := t.parts } := by rw [msgOf, if_neg (by decide), if_neg (by decide), if_pos rfl]
      rw [em]
      exact retA1 b9 ⟨⟨w, w1, w2, Sl.nil⟩, rfl, i9, x9, gB.mono (by omega)⟩
    have hk7 : ¬ kind = 7 := hk
    have gB : MsgGe H2.size ⟨w, Sl.nil, Sl.nil, Sl.nil⟩ := ⟨hwg, nilGe _, nilGe _, nilGe _⟩
    have iB : MsgIn A5 (msgBase t v kind n) ⟨w, Sl.nil, Sl.nil, Sl.nil⟩ := ⟨hw5, RowF.nil _, RowF.nil _, Bytes.nil _⟩
    refine run ?_
    refine RegS.storeA (us := msgC (msgBase t v kind n) ⟨w, Sl.nil, Sl.nil, Sl.nil⟩) q5 ?_
    have c9 := hsets_chg H1.size (msgC (msgBase t v kind n) ⟨w, Sl.nil, Sl.nil, Sl.nil⟩) 0 A5
    have b9 : Blk (hsets A5 H1.size 0 (msgC (msgBase t v kind n) ⟨w, Sl.nil, Sl.nil, Sl.nil⟩)) H1.size 38 (msgC (msgBase t v kind n) ⟨w, Sl.nil, Sl.nil, Sl.nil⟩) := Blk.sets (msgC (msgBase t v kind n) ⟨w, Sl.nil, Sl.nil, Sl.nil⟩) 0 q5
    have i9 := iB.chgGe gB c9 fun b hb e => by omega
    have x9 := x5.then c9 fun b hb => by omega
    generalize hsets A5 H1.size 0 (msgC (msgBase t v kind n) ⟨w, Sl.nil, Sl.nil, Sl.nil⟩) = B9 at b9 i9 x9 ⊢
    refine run ?_
    have em : msgOf t v kind n = msgBase t v kind n := by rw [msgOf, if_neg hk1, if_neg hk3, if_neg hk7]
    rw [em]
    exact retA1 b9 ⟨⟨w, Sl.nil, Sl.nil, Sl.nil⟩, rfl, i9, x9, gB.mono (by omega)⟩
end Go.Proofs.YtaikdcnifijcoaaGreat
