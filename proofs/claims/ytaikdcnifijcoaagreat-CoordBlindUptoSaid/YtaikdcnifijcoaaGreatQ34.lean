/-
  The walks of package coord: a call.
-/
import Derived.Test.YtaikdcnifijcoaaGreatQ33
set_option linter.unusedVariables false
set_option linter.unusedSimpArgs false
namespace Go.Proofs.YtaikdcnifijcoaaGreat
open Go Go.Vc Go.Gf
section
variable {S : Nat → Prop} {H H' A B : Heap} {O O' OA : Ow} {cb fb bb sb N T K E R : Nat} {down : Bool} {c : CSt} {ts : TaskS}
def cDel (down : Bool) (id : List UInt8) (c : CSt) : COut := (ansE ((bkChange down c.s (delA c.v id).1 (delA c.v id).2).2 : Nat), [], ⟨(bkChange down c.s (delA c.v id).1 (delA c.v id).2).1, bkV down c.s c.v (delA c.v id).1 (delA c.v id).2, c.t⟩)
def cNew (k : Int) (c : CSt) : CSt := { c with t := { task0 with kind := k } }
def cCall (down : Bool) (N T K E : Nat) (x : StepA) (c : CSt) : COut :=
  if (down || c.s.pw.gone) = true then (ansE 3, [], c) else if c.t.kind ≠ 0 then (ansE 4, [], c) else
  if x.kind = 3 then cDel down x.id c else
  if x.kind = 4 then ({ ansE 0 with heads := c.v.dir }, [], c) else
  if x.kind = 8 then ({ ansE 0 with list := upL c.v.up (-1) N }, [], c) else
  if x.kind = 1 ∨ x.kind = 2 ∨ x.kind = 5 ∨ x.kind = 6 ∨ x.kind = 7 then cStart down N T K E x (cNew x.kind c) else (ansE 1, [], c)
set_option maxHeartbeats 16000000 in
theorem coCall_ok (x : StepA) (sd : Sl) (hx : Bytes H sd x.data) (hxn : 0 < sd.len → ∀ b, sd.blk = some b → b ≠ cb) (hn : N ≤ 255) (hT : T ≤ 255) (hK : K ≤ 255) (hE : E ≤ 255) (hw : WfO H O) (h : CoIs H O cb fb bb sb N T K E R down c ts) (hgs : Rest c.t ts) (hdel : x.kind = 3 → Rises c.v.dir) :
    CallsH Tryz.prog 20 [ptrD cb, .agg (stepC x sd).toArray] H (OutR H O cb fb bb sb N T K E R down (cCall down N T K E x c)) := by
  refine CallsH.enter h20 Tryz.func20 rfl rfl rfl (by decide) fun u => run ?_
  refine RegS.boxA fun H0 x0 z0 b0 => ?_
  have b0 : Blk H0 H.size 47 (stepC x sd) := b0
  have s0 : Step (fun _ => False) H O H0 O := x0.step hw
  refine run ?_
  refine RegS.allocA fun H1 x1 z1 b1 => ?_
  have b1 : Blk H1 H0.size 51 (ansC ans0 ansS0) := b1
  obtain ⟨k9, O1, hk9, hno0, st1, ho⟩ := cell_new s0.wf x1 z1
  have hno : ∀ b, b < H.size → O b ≠ k9 := fun b hb => hno0 b (by omega)
  have h1 := (h.step s0 id id id id id).step st1 id id id id id
  have s1 : Step (fun x => Co x ∨ x = k9) H O H1 O1 := (w0 s0).trans (w0 st1)
  have p1 := b0.ext x1
  have d1 := Bytes.ext hx (x0.trans x1)
  have hb1 := h1.at_.blk
  have lt1 := b1.lt
  refine run ?_
  refine RegS.call (bdown_ok h1.at_.book) ?_
  rintro _ _ ⟨rfl, rfl⟩
  cases hd : (down || c.s.pw.gone) with
  | true =>
    rw [cCall, if_pos hd]
    refine run ?_
    refine RegS.call (done_ok 3 H1) ?_
    rintro _ D1 ⟨rfl, y1⟩
    have t1 : Step (fun _ => False) H1 O1 D1 O1 := y1.step st1.wf
    have hD1 := h1.step t1 id id id id id
    have kD1 := b1.ext y1
    refine run ?_
    refine RegS.storeA (us := ansC (ansE 3) ansS0) kD1 ?_
    obtain ⟨bD2, t2⟩ := cell_set (ansC (ansE 3) ansS0) t1.wf kD1 ho rfl
    generalize hsets D1 H0.size 0 (ansC (ansE 3) ansS0) = D2 at bD2 t2 ⊢
    have hD2 := hD1.step t2 (by omega) (by omega) (by omega) (by omega) (by omega)
    refine run ?_
    exact retcA (cs := ansC (ansE 3) ansS0) bD2 ⟨ansS0, Sl.nil, [], O1, ts, rfl, ansRoE _ _ _, MsgRo.nil _ _, rfl, Step.drop ((s1.trans (w0 t1)).trans (t2.mono fun x e => .inr e)) (fun b hb hS => hS.elim _root_.id fun e => absurd e (hno b hb)), hD2, hgs⟩
  | false =>
  rw [cCall, if_neg (by rw [hd]; simp)]
  refine run ?_
  refine Wp.br (fun hk => ?_) (fun hk => ?_)
  · have hk : c.t.kind ≠ 0 := hk
    rw [if_pos hk]
    refine run ?_
    refine RegS.call (done_ok 4 H1) ?_
    rintro _ D1 ⟨rfl, y1⟩
    have t1 : Step (fun _ => False) H1 O1 D1 O1 := y1.step st1.wf
    have hD1 := h1.step t1 id id id id id
    have kD1 := b1.ext y1
    refine run ?_
    refine RegS.storeA (us := ansC (ansE 4) ansS0) kD1 ?_
    obtain ⟨bD2, t2⟩ := cell_set (ansC (ansE 4) ansS0) t1.wf kD1 ho rfl
    generalize hsets D1 H0.size 0 (ansC (ansE 4) ansS0) = D2 at bD2 t2 ⊢
    have hD2 := hD1.step t2 (by omega) (by omega) (by omega) (by omega) (by omega)
    refine run ?_
    exact retcA (cs := ansC (ansE 4) ansS0) bD2 ⟨ansS0, Sl.nil, [], O1, ts, rfl, ansRoE _ _ _, MsgRo.nil _ _, rfl, Step.drop ((s1.trans (w0 t1)).trans (t2.mono fun x e => .inr e)) (fun b hb hS => hS.elim _root_.id fun e => absurd e (hno b hb)), hD2, hgs⟩
  have hk0 : ¬ c.t.kind ≠ 0 := hk
  rw [if_neg hk0]
  refine run ?_
  refine Wp.br (fun hk => ?_) (fun hk => ?_)
  · have hk : x.kind = 3 := hk
    rw [if_pos hk]
    refine run ?_
    refine RegP.call (bdel_ok c.v x.id hn st1.wf h1.at_.book h1.is (hdel hk)) ?_
    rintro _ H3 ⟨rfl, O3, st3, hk3⟩
    rw [cDel]
    have hfa : BookFit N (delA c.v x.id).1 := delA_fit h1.is.fit
    generalize delA c.v x.id = da at hk3 hfa ⊢
    have h3 := h1.at_.ofBook st3 (by decide) (by decide) (by decide) hk3
    have h3 : CoIs H3 O3 cb fb bb sb N T K E R down ⟨(bkChange down c.s da.1 da.2).1, bkV down c.s c.v da.1 da.2, c.t⟩ ts := ⟨h3, bk_is h1.is fun _ => hfa, h1.ok⟩
    have s3 := s1.trans (wC (st3.mono fun x e => by subst e; exact ⟨by omega, by omega⟩))
    have b3 := b1.step st3 (by omega)
    have ho3 := st3.own b1.lt ho
    refine ⟨.inr proms2, ?_⟩
    refine run ?_
    refine RegP.call (done_ok ((bkChange down c.s da.1 da.2).2 : Nat) H3) ?_
    rintro _ D1 ⟨rfl, y1⟩
    refine ⟨.inl y1, ?_⟩
    have t1 : Step (fun _ => False) H3 O3 D1 O3 := y1.step st3.wf
    have hD1 := h3.step t1 id id id id id
    have kD1 := b3.ext y1
    refine run ?_
    refine RegP.storeA (us := ansC (ansE ((bkChange down c.s da.1 da.2).2 : Nat)) ansS0) kD1 ?_ ?_
    · exact Proms.nil
    obtain ⟨bD2, t2⟩ := cell_set (ansC (ansE ((bkChange down c.s da.1 da.2).2 : Nat)) ansS0) t1.wf kD1 ho3 rfl
    generalize hsets D1 H0.size 0 (ansC (ansE ((bkChange down c.s da.1 da.2).2 : Nat)) ansS0) = D2 at bD2 t2 ⊢
    have hD2 := hD1.step t2 (by omega) (by omega) (by omega) (by omega) (by omega)
    refine run ?_
    exact retcA (cs := ansC (ansE ((bkChange down c.s da.1 da.2).2 : Nat)) ansS0) bD2 ⟨ansS0, Sl.nil, [], O3, ts, rfl, ansRoE _ _ _, MsgRo.nil _ _, rfl, Step.drop ((s3.trans (w0 t1)).trans (t2.mono fun x e => .inr e)) (fun b hb hS => hS.elim _root_.id fun e => absurd e (hno b hb)), hD2, hgs⟩
  have hk3 : ¬ x.kind = 3 := hk
  rw [if_neg hk3]
  refine run ?_
  refine Wp.br (fun hk => ?_) (fun hk => ?_)
  · have hk : x.kind = 4 := hk
    rw [if_pos hk]
    refine run ?_
    refine RegS.call (done_ok 0 H1) ?_
    rintro _ D1 ⟨rfl, y1⟩
    have t1 : Step (fun _ => False) H1 O1 D1 O1 := y1.step st1.wf
    refine run ?_
    refine RegS.allocA fun A1 y2 v2 q2 => ?_
    have q2 : Blk A1 D1.size 51 (ansC ans0 ansS0) := q2
    have t2 : Step (fun _ => False) D1 O1 A1 (O1.give (fun x => x = D1.size) k9) := (y2.step t1.wf).give fun x hx => by omega
    have oq : (O1.give (fun x => x = D1.size) k9) D1.size = k9 := Ow.give_pos rfl
    generalize O1.give (fun x => x = D1.size) k9 = O2 at t2 oq
    have hA := (h1.step t1 id id id id id).step t2 id id id id id
    have kA := (b1.step t1 id).step t2 id
    have hoA := t2.own (b1.step t1 id).lt (t1.own b1.lt ho)
    have zy := y1.size
    refine run ?_
    refine RegS.storeA (us := ansC (ansE 0) ansS0) q2 ?_
    obtain ⟨q3, t3⟩ := cell_set (ansC (ansE 0) ansS0) t2.wf q2 oq rfl
    have hA3 := hA.step t3 (by omega) (by omega) (by omega) (by omega) (by omega)
    have kA3 := kA.chg (hsets_chg D1.size (ansC (ansE 0) ansS0) 0 A1) (by omega)
    generalize hsets A1 D1.size 0 (ansC (ansE 0) ansS0) = A3 at q3 t3 hA3 kA3 ⊢
    have hbA3 := hA3.at_.blk
    have sA := ((s1.trans (w0 t1)).trans (w0 t2)).trans (t3.mono (S' := fun x => Co x ∨ x = k9) fun x e => .inr e)
    refine run ?_
    refine RegS.call (view_ok c.v hn t3.wf hA3.at_.book hA3.is) ?_
    rintro _ A4 ⟨k, rfl, hkv, y4, g1, g2, g3, nw⟩
    have t4 : Step (fun _ => False) A3 O2 A4 O2 := y4.step t3.wf
    have hA4 := hA3.step t4 id id id id id
    have kA4 := kA3.ext y4
    have q4 := q3.ext y4
    have rd : RoH A4 O2 k.dir c.v.dir := RoH.new hkv.dir t3.wf g1
    refine run ?_
    refine RegS.store (v := k.dir.val) (Blk.wr q4 (j := 3) (by simp)) ?_
    have q5 : Blk (hset A4 ⟨D1.size, 3, none⟩ k.dir.val) D1.size 51 (ansC { ansE 0 with heads := c.v.dir } ⟨Sl.nil, k.dir, Sl.nil⟩) := Blk.set (j := 3) (v := k.dir.val) q4
    have c5 : Chg (· = D1.size) A4 (hset A4 ⟨D1.size, 3, none⟩ k.dir.val) := hset_chg A4 ⟨D1.size, 3, none⟩ k.dir.val
    have t5 : Step (· = k9) A4 O2 (hset A4 ⟨D1.size, 3, none⟩ k.dir.val) O2 := c5.step t4.wf fun x _ e => by subst e; exact oq
    have hA5 := hA4.step t5 (by omega) (by omega) (by omega) (by omega) (by omega)
    have kA5 := kA4.chg c5 (by omega)
    have rd5 := rd.step t5 (by omega)
    generalize hset A4 ⟨D1.size, 3, none⟩ k.dir.val = A5 at q5 c5 t5 hA5 kA5 rd5 ⊢
    refine run ?_
    refine RegS.storeA (us := ansC { ansE 0 with heads := c.v.dir } ⟨Sl.nil, k.dir, Sl.nil⟩) kA5 ?_
    obtain ⟨bZ, tZ⟩ := cell_set (ansC { ansE 0 with heads := c.v.dir } ⟨Sl.nil, k.dir, Sl.nil⟩) t5.wf kA5 hoA rfl
    have hZ := hA5.step tZ (by omega) (by omega) (by omega) (by omega) (by omega)
    have rdZ := rd5.step tZ (by omega)
    generalize hsets A5 H0.size 0 (ansC { ansE 0 with heads := c.v.dir } ⟨Sl.nil, k.dir, Sl.nil⟩) = A6 at bZ tZ hZ rdZ ⊢
    refine run ?_
    exact retcA (cs := ansC { ansE 0 with heads := c.v.dir } ⟨Sl.nil, k.dir, Sl.nil⟩) bZ ⟨⟨Sl.nil, k.dir, Sl.nil⟩, Sl.nil, [], O2, ts, rfl, ⟨RoF.nil _ _, rdZ, RoF.nil _ _⟩, MsgRo.nil _ _, rfl, Step.drop (((sA.trans (w0 t4)).trans (t5.mono fun x e => .inr e)).trans (tZ.mono fun x e => .inr e)) (fun b hb hS => hS.elim _root_.id fun e => absurd e (hno b hb)), hZ, hgs⟩
  have hk4 : ¬ x.kind = 4 := hk
  rw [if_neg hk4]
  refine run ?_
  refine Wp.br (fun hk => ?_) (fun hk => ?_)
  · have hk : x.kind = 8 := hk
    rw [if_pos hk]
    refine run ?_
    refine RegS.call (done_ok 0 H1) ?_
    rintro _ D1 ⟨rfl, y1⟩
    have t1 : Step (fun _ => False) H1 O1 D1 O1 := y1.step st1.wf
    refine run ?_
    refine RegS.allocA fun A1 y2 v2 q2 => ?_
    have q2 : Blk A1 D1.size 51 (ansC ans0 ansS0) := q2
    have t2 : Step (fun _ => False) D1 O1 A1 (O1.give (fun x => x = D1.size) k9) := (y2.step t1.wf).give fun x hx => by omega
    have oq : (O1.give (fun x => x = D1.size) k9) D1.size = k9 := Ow.give_pos rfl
    generalize O1.give (fun x => x = D1.size) k9 = O2 at t2 oq
    have hA := (h1.step t1 id id id id id).step t2 id id id id id
    have kA := (b1.step t1 id).step t2 id
    have hoA := t2.own (b1.step t1 id).lt (t1.own b1.lt ho)
    have zy := y1.size
    refine run ?_
    refine RegS.storeA (us := ansC (ansE 0) ansS0) q2 ?_
    obtain ⟨q3, t3⟩ := cell_set (ansC (ansE 0) ansS0) t2.wf q2 oq rfl
    have hA3 := hA.step t3 (by omega) (by omega) (by omega) (by omega) (by omega)
    have kA3 := kA.chg (hsets_chg D1.size (ansC (ansE 0) ansS0) 0 A1) (by omega)
    generalize hsets A1 D1.size 0 (ansC (ansE 0) ansS0) = A3 at q3 t3 hA3 kA3 ⊢
    have hbA3 := hA3.at_.blk
    have sA := ((s1.trans (w0 t1)).trans (w0 t2)).trans (t3.mono (S' := fun x => Co x ∨ x = k9) fun x e => .inr e)
    refine run ?_
    refine RegS.call (coUp_ok c.v (-1) (by omega) hn t3.wf hA3.at_ hA3.is) ?_
    rintro _ A4 ⟨w, rfl, hwr, y4, gw⟩
    have t4 : Step (fun _ => False) A3 O2 A4 O2 := y4.step t3.wf
    have hA4 := hA3.step t4 id id id id id
    have kA4 := kA3.ext y4
    have q4 := q3.ext y4
    have rd : RoF IV 0 A4 O2 w (upL c.v.up (-1) N) := RoF.new hwr t3.wf gw
    refine run ?_
    refine RegS.store (v := w.val) (Blk.wr q4 (j := 4) (by simp)) ?_
    have q5 : Blk (hset A4 ⟨D1.size, 4, none⟩ w.val) D1.size 51 (ansC { ansE 0 with list := upL c.v.up (-1) N } ⟨Sl.nil, Sl.nil, w⟩) := Blk.set (j := 4) (v := w.val) q4
    have c5 : Chg (· = D1.size) A4 (hset A4 ⟨D1.size, 4, none⟩ w.val) := hset_chg A4 ⟨D1.size, 4, none⟩ w.val
    have t5 : Step (· = k9) A4 O2 (hset A4 ⟨D1.size, 4, none⟩ w.val) O2 := c5.step t4.wf fun x _ e => by subst e; exact oq
    have hA5 := hA4.step t5 (by omega) (by omega) (by omega) (by omega) (by omega)
    have kA5 := kA4.chg c5 (by omega)
    have rd5 := rd.step t5 (by omega)
    generalize hset A4 ⟨D1.size, 4, none⟩ w.val = A5 at q5 c5 t5 hA5 kA5 rd5 ⊢
    refine run ?_
    refine RegS.storeA (us := ansC { ansE 0 with list := upL c.v.up (-1) N } ⟨Sl.nil, Sl.nil, w⟩) kA5 ?_
    obtain ⟨bZ, tZ⟩ := cell_set (ansC { ansE 0 with list := upL c.v.up (-1) N } ⟨Sl.nil, Sl.nil, w⟩) t5.wf kA5 hoA rfl
    have hZ := hA5.step tZ (by omega) (by omega) (by omega) (by omega) (by omega)
    have rdZ := rd5.step tZ (by omega)
    generalize hsets A5 H0.size 0 (ansC { ansE 0 with list := upL c.v.up (-1) N } ⟨Sl.nil, Sl.nil, w⟩) = A6 at bZ tZ hZ rdZ ⊢
    refine run ?_
    exact retcA (cs := ansC { ansE 0 with list := upL c.v.up (-1) N } ⟨Sl.nil, Sl.nil, w⟩) bZ ⟨⟨Sl.nil, Sl.nil, w⟩, Sl.nil, [], O2, ts, rfl, ⟨RoF.nil _ _, RoH.nil _ _, rdZ⟩, MsgRo.nil _ _, rfl, Step.drop (((sA.trans (w0 t4)).trans (t5.mono fun x e => .inr e)).trans (tZ.mono fun x e => .inr e)) (fun b hb hS => hS.elim _root_.id fun e => absurd e (hno b hb)), hZ, hgs⟩
  have hk8 : ¬ x.kind = 8 := hk
  rw [if_neg hk8]
  refine run ?_
  refine Wp.br (fun hk => ?_) (fun hk => ?_)
  · have hk : x.kind = 1 := hk
    rw [if_pos (.inl hk)]
    refine run ?_
    refine RegS.storeA (us := taskC { task0 with kind := x.kind } taskS0) hb1 ?_
    have c6 := hsets_chg cb (taskC { task0 with kind := x.kind } taskS0) 7 H1
    have b6 : Blk (hsets H1 cb 7 (taskC { task0 with kind := x.kind } taskS0)) cb 122 (coordC N T K E R fb bb { task0 with kind := x.kind } taskS0) := Blk.sets (taskC { task0 with kind := x.kind } taskS0) 7 hb1
    obtain ⟨h6, st6⟩ := h1.at_.turn (t' := { task0 with kind := x.kind }) (ts' := taskS0) st1.wf c6 b6 ⟨RoF.nil _ _, RoF.nil _ _, RoF.nil _ _, RoF.nil _ _, rfl⟩
    have k6 := b1.step st6 (by omega)
    have p6 := p1.step st6 (by rw [st1.agr _ b0.lt, hw.new _ (Nat.le_refl _)]; decide)
    have d6 : Bytes (hsets H1 cb 7 (taskC { task0 with kind := x.kind } taskS0)) sd x.data := RowF.chgN d1 c6 fun hp b hb => ⟨RowF.lt d1 hp b hb, fun e => hxn hp b hb (e.trans rfl)⟩
    generalize hsets H1 cb 7 (taskC { task0 with kind := x.kind } taskS0) = H6 at c6 b6 h6 st6 k6 p6 d6 ⊢
    have h6 : CoIs H6 O1 cb fb bb sb N T K E R down (cNew x.kind c) taskS0 := ⟨h6, h1.is, ⟨(taskOk0 N).phase, (taskOk0 N).parts, (taskOk0 N).dealers, (taskOk0 N).queue, (taskOk0 N).got, (taskOk0 N).keys⟩⟩
    have s6 := s1.trans (wC (st6.mono fun x e => by subst e; exact ⟨by omega, by omega⟩))
    refine run ?_
    refine RegS.call (coStart_ok x sd d6 hn hT hK hE st6.wf h6 rfl) ?_
    rintro r B hr
    obtain ⟨sa, w', rfl, kB, b9, hout⟩ := OutR.close s6 hno hr k6 ho hk9 rfl
    refine run ?_
    refine RegS.storeA (us := ansC (cStart down N T K E x (cNew x.kind c)).1 sa) kB ?_
    generalize hsets B H0.size 0 (ansC (cStart down N T K E x (cNew x.kind c)).1 sa) = BB at b9 hout ⊢
    refine run ?_
    exact retcA b9 hout
  have hk1' : ¬ x.kind = 1 := hk
  refine run ?_
  refine Wp.br (fun hk => ?_) (fun hk => ?_)
  · have hk : x.kind = 2 := hk
    rw [if_pos (.inr (.inl hk))]
    refine run ?_
    refine RegS.storeA (us := taskC { task0 with kind := x.kind } taskS0) hb1 ?_
    have c6 := hsets_chg cb (taskC { task0 with kind := x.kind } taskS0) 7 H1
    have b6 : Blk (hsets H1 cb 7 (taskC { task0 with kind := x.kind } taskS0)) cb 122 (coordC N T K E R fb bb { task0 with kind := x.kind } taskS0) := Blk.sets (taskC { task0 with kind := x.kind } taskS0) 7 hb1
    obtain ⟨h6, st6⟩ := h1.at_.turn (t' := { task0 with kind := x.kind }) (ts' := taskS0) st1.wf c6 b6 ⟨RoF.nil _ _, RoF.nil _ _, RoF.nil _ _, RoF.nil _ _, rfl⟩
    have k6 := b1.step st6 (by omega)
    have p6 := p1.step st6 (by rw [st1.agr _ b0.lt, hw.new _ (Nat.le_refl _)]; decide)
    have d6 : Bytes (hsets H1 cb 7 (taskC { task0 with kind := x.kind } taskS0)) sd x.data := RowF.chgN d1 c6 fun hp b hb => ⟨RowF.lt d1 hp b hb, fun e => hxn hp b hb (e.trans rfl)⟩
    generalize hsets H1 cb 7 (taskC { task0 with kind := x.kind } taskS0) = H6 at c6 b6 h6 st6 k6 p6 d6 ⊢
    have h6 : CoIs H6 O1 cb fb bb sb N T K E R down (cNew x.kind c) taskS0 := ⟨h6, h1.is, ⟨(taskOk0 N).phase, (taskOk0 N).parts, (taskOk0 N).dealers, (taskOk0 N).queue, (taskOk0 N).got, (taskOk0 N).keys⟩⟩
    have s6 := s1.trans (wC (st6.mono fun x e => by subst e; exact ⟨by omega, by omega⟩))
    refine run ?_
    refine RegS.call (coStart_ok x sd d6 hn hT hK hE st6.wf h6 rfl) ?_
    rintro r B hr
    obtain ⟨sa, w', rfl, kB, b9, hout⟩ := OutR.close s6 hno hr k6 ho hk9 rfl
    refine run ?_
    refine RegS.storeA (us := ansC (cStart down N T K E x (cNew x.kind c)).1 sa) kB ?_
    generalize hsets B H0.size 0 (ansC (cStart down N T K E x (cNew x.kind c)).1 sa) = BB at b9 hout ⊢
    refine run ?_
    exact retcA b9 hout
  have hk2' : ¬ x.kind = 2 := hk
  refine run ?_
  refine Wp.br (fun hk => ?_) (fun hk => ?_)
  · have hk : x.kind = 5 := hk
    rw [if_pos (.inr (.inr (.inl hk)))]
    refine run ?_
    refine RegS.storeA (us := taskC { task0 with kind := x.kind } taskS0) hb1 ?_
    have c6 := hsets_chg cb (taskC { task0 with kind := x.kind } taskS0) 7 H1
    have b6 : Blk (hsets H1 cb 7 (taskC { task0 with kind := x.kind } taskS0)) cb 122 (coordC N T K E R fb bb { task0 with kind := x.kind } taskS0) := Blk.sets (taskC { task0 with kind := x.kind } taskS0) 7 hb1
    obtain ⟨h6, st6⟩ := h1.at_.turn (t' := { task0 with kind := x.kind }) (ts' := taskS0) st1.wf c6 b6 ⟨RoF.nil _ _, RoF.nil _ _, RoF.nil _ _, RoF.nil _ _, rfl⟩
    have k6 := b1.step st6 (by omega)
    have p6 := p1.step st6 (by rw [st1.agr _ b0.lt, hw.new _ (Nat.le_refl _)]; decide)
    have d6 : Bytes (hsets H1 cb 7 (taskC { task0 with kind := x.kind } taskS0)) sd x.data := RowF.chgN d1 c6 fun hp b hb => ⟨RowF.lt d1 hp b hb, fun e => hxn hp b hb (e.trans rfl)⟩
    generalize hsets H1 cb 7 (taskC { task0 with kind := x.kind } taskS0) = H6 at c6 b6 h6 st6 k6 p6 d6 ⊢
    have h6 : CoIs H6 O1 cb fb bb sb N T K E R down (cNew x.kind c) taskS0 := ⟨h6, h1.is, ⟨(taskOk0 N).phase, (taskOk0 N).parts, (taskOk0 N).dealers, (taskOk0 N).queue, (taskOk0 N).got, (taskOk0 N).keys⟩⟩
    have s6 := s1.trans (wC (st6.mono fun x e => by subst e; exact ⟨by omega, by omega⟩))
    refine run ?_
    refine RegS.call (coStart_ok x sd d6 hn hT hK hE st6.wf h6 rfl) ?_
    rintro r B hr
    obtain ⟨sa, w', rfl, kB, b9, hout⟩ := OutR.close s6 hno hr k6 ho hk9 rfl
    refine run ?_
    refine RegS.storeA (us := ansC (cStart down N T K E x (cNew x.kind c)).1 sa) kB ?_
    generalize hsets B H0.size 0 (ansC (cStart down N T K E x (cNew x.kind c)).1 sa) = BB at b9 hout ⊢
    refine run ?_
    exact retcA b9 hout
  have hk5' : ¬ x.kind = 5 := hk
  refine run ?_
  refine Wp.br (fun hk => ?_) (fun hk => ?_)
  · have hk : x.kind = 6 := hk
    rw [if_pos (.inr (.inr (.inr (.inl hk))))]
    refine run ?_
    refine RegS.storeA (us := taskC { task0 with kind := x.kind } taskS0) hb1 ?_
    have c6 := hsets_chg cb (taskC { task0 with kind := x.kind } taskS0) 7 H1
    have b6 : Blk (hsets H1 cb 7 (taskC { task0 with kind := x.kind } taskS0)) cb 122 (coordC N T K E R fb bb { task0 with kind := x.kind } taskS0) := Blk.sets (taskC { task0 with kind := x.kind } taskS0) 7 hb1
    obtain ⟨h6, st6⟩ := h1.at_.turn (t' := { task0 with kind := x.kind }) (ts' := taskS0) st1.wf c6 b6 ⟨RoF.nil _ _, RoF.nil _ _, RoF.nil _ _, RoF.nil _ _, rfl⟩
    have k6 := b1.step st6 (by omega)
    have p6 := p1.step st6 (by rw [st1.agr _ b0.lt, hw.new _ (Nat.le_refl _)]; decide)
    have d6 : Bytes (hsets H1 cb 7 (taskC { task0 with kind := x.kind } taskS0)) sd x.data := RowF.chgN d1 c6 fun hp b hb => ⟨RowF.lt d1 hp b hb, fun e => hxn hp b hb (e.trans rfl)⟩
    generalize hsets H1 cb 7 (taskC { task0 with kind := x.kind } taskS0) = H6 at c6 b6 h6 st6 k6 p6 d6 ⊢
    have h6 : CoIs H6 O1 cb fb bb sb N T K E R down (cNew x.kind c) taskS0 := ⟨h6, h1.is, ⟨(taskOk0 N).phase, (taskOk0 N).parts, (taskOk0 N).dealers, (taskOk0 N).queue, (taskOk0 N).got, (taskOk0 N).keys⟩⟩
    have s6 := s1.trans (wC (st6.mono fun x e => by subst e; exact ⟨by omega, by omega⟩))
    refine run ?_
    refine RegS.call (coStart_ok x sd d6 hn hT hK hE st6.wf h6 rfl) ?_
    rintro r B hr
    obtain ⟨sa, w', rfl, kB, b9, hout⟩ := OutR.close s6 hno hr k6 ho hk9 rfl
    refine run ?_
    refine RegS.storeA (us := ansC (cStart down N T K E x (cNew x.kind c)).1 sa) kB ?_
    generalize hsets B H0.size 0 (ansC (cStart down N T K E x (cNew x.kind c)).1 sa) = BB at b9 hout ⊢
    refine run ?_
    exact retcA b9 hout
  have hk6' : ¬ x.kind = 6 := hk
  refine run ?_
  refine Wp.br (fun hk => ?_) (fun hk => ?_)
  · have hk : x.kind = 7 := hk
    rw [if_pos (.inr (.inr (.inr (.inr hk))))]
    refine run ?_
    refine RegS.storeA (us := taskC { task0 with kind := x.kind } taskS0) hb1 ?_
    have c6 := hsets_chg cb (taskC { task0 with kind := x.kind } taskS0) 7 H1
    have b6 : Blk (hsets H1 cb 7 (taskC { task0 with kind := x.kind } taskS0)) cb 122 (coordC N T K E R fb bb { task0 with kind := x.kind } taskS0) := Blk.sets (taskC { task0 with kind := x.kind } taskS0) 7 hb1
    obtain ⟨h6, st6⟩ := h1.at_.turn (t' := { task0 with kind := x.kind }) (ts' := taskS0) st1.wf c6 b6 ⟨RoF.nil _ _, RoF.nil _ _, RoF.nil _ _, RoF.nil _ _, rfl⟩
    have k6 := b1.step st6 (by omega)
    have p6 := p1.step st6 (by rw [st1.agr _ b0.lt, hw.new _ (Nat.le_refl _)]; decide)
    have d6 : Bytes (hsets H1 cb 7 (taskC { task0 with kind := x.kind } taskS0)) sd x.data := RowF.chgN d1 c6 fun hp b hb => ⟨RowF.lt d1 hp b hb, fun e => hxn hp b hb (e.trans rfl)⟩
    generalize hsets H1 cb 7 (taskC { task0 with kind := x.kind } taskS0) = H6 at c6 b6 h6 st6 k6 p6 d6 ⊢
    have h6 : CoIs H6 O1 cb fb bb sb N T K E R down (cNew x.kind c) taskS0 := ⟨h6, h1.is, ⟨(taskOk0 N).phase, (taskOk0 N).parts, (taskOk0 N).dealers, (taskOk0 N).queue, (taskOk0 N).got, (taskOk0 N).keys⟩⟩
    have s6 := s1.trans (wC (st6.mono fun x e => by subst e; exact ⟨by omega, by omega⟩))
    refine run ?_
    refine RegS.call (coStart_ok x sd d6 hn hT hK hE st6.wf h6 rfl) ?_
    rintro r B hr
    obtain ⟨sa, w', rfl, kB, b9, hout⟩ := OutR.close s6 hno hr k6 ho hk9 rfl
    refine run ?_
    refine RegS.storeA (us := ansC (cStart down N T K E x (cNew x.kind c)).1 sa) kB ?_
    generalize hsets B H0.size 0 (ansC (cStart down N T K E x (cNew x.kind c)).1 sa) = BB at b9 hout ⊢
    refine run ?_
    exact retcA b9 hout
  have hk7' : ¬ x.kind = 7 := hk
  rw [if_neg (by intro h; rcases h with h | h | h | h | h <;> contradiction)]
  refine run ?_
  refine RegS.call (done_ok 1 H1) ?_
  rintro _ D1 ⟨rfl, y1⟩
  have t1 : Step (fun _ => False) H1 O1 D1 O1 := y1.step st1.wf
  have hD1 := h1.step t1 id id id id id
  have kD1 := b1.ext y1
  refine run ?_
  refine RegS.storeA (us := ansC (ansE 1) ansS0) kD1 ?_
  obtain ⟨bD2, t2⟩ := cell_set (ansC (ansE 1) ansS0) t1.wf kD1 ho rfl
  generalize hsets D1 H0.size 0 (ansC (ansE 1) ansS0) = D2 at bD2 t2 ⊢
  have hD2 := hD1.step t2 (by omega) (by omega) (by omega) (by omega) (by omega)
  refine run ?_
  exact retcA (cs := ansC (ansE 1) ansS0) bD2 ⟨ansS0, Sl.nil, [], O1, ts, rfl, ansRoE _ _ _, MsgRo.nil _ _, rfl, Step.drop ((s1.trans (w0 t1)).trans (t2.mono fun x e => .inr e)) (fun b hb hS => hS.elim _root_.id fun e => absurd e (hno b hb)), hD2, hgs⟩
end
end Go.Proofs.YtaikdcnifijcoaaGreat
