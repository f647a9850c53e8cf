/-
  Lists of messages.
-/
import Derived.Test.YtaikdcnifijcoaaGreatQ23
import Derived.Test.YtaikdcnifijcoaaGreatQ17
import Derived.Test.YtaikdcnifijcoaaGreatQ22
import Derived.Test.YtaikdcnifijcoaaGreatQ14
import Derived.Test.YtaikdcnifijcoaaGreatQ08
import Derived.Test.YtaikdcnifijcoaaGreatQ12
set_option linter.unusedVariables false
set_option linter.unusedSimpArgs false
namespace Go.Proofs.YtaikdcnifijcoaaGreat
open Go Go.Vc Go.Gf
/-- What is under way, and its slices. -/
structure TaskA where
  kind : Int
  session : Int
  phase : Int
  sort : Int
  target : Int
  head : HdT
  parts : List Int
  dealers : List Int
  list : List Int
  queue : List Int
  got : CV
structure TaskS where
  parts : Sl
  dealers : Sl
  list : Sl
  queue : Sl
  got : Option Nat
def task0 : TaskA := ⟨0, 0, 0, 0, 0, ([], 0), [], [], [], [], []⟩
def taskS0 : TaskS := ⟨Sl.nil, Sl.nil, Sl.nil, Sl.nil, none⟩
abbrev mapV (m : Option Nat) : Value := .map m
abbrev taskC (t : TaskA) (ts : TaskS) : List Value := [IV t.kind, IV t.session, IV t.phase, IV t.sort, IV t.target, S t.head.1, IV t.head.2, ts.parts.val, ts.dealers.val, ts.list.val, ts.queue.val, mapV ts.got]
abbrev coordC (N T K E R fb bb : Nat) (t : TaskA) (ts : TaskS) : List Value := [I64 N, I64 T, I64 K, I64 E, I64 R, fieldV fb, ptrD bb, IV t.kind, IV t.session, IV t.phase, IV t.sort, IV t.target, S t.head.1, IV t.head.2, ts.parts.val, ts.dealers.val, ts.list.val, ts.queue.val, mapV ts.got]
/-- What came. -/
structure GotRow (H : Heap) (O : Ow) (b : Nat) (l : SV) (c : CV) : Prop where
  map : MapI H b (kvs l)
  own : O b = 4
  keys : l.map (·.1) = c.map (·.1)
  rows : ∀ i, i < l.length → RoB H O (l.getD i (0, Sl.nil)).2 (c.getD i (0, [])).2
def GotAt (H : Heap) (O : Ow) (g : Option Nat) (c : CV) : Prop := match g with
  | none => c = []
  | some b => ∃ l, GotRow H O b l c
theorem GotAt.step {S : Nat → Prop} {H H' : Heap} {O O' : Ow} {g : Option Nat} {c : CV} (h : GotAt H O g c) (st : Step S H O H' O') (h0 : ¬ S 0) (h4 : ¬ S 4) : GotAt H' O' g c := by
  cases g with
  | none => exact h
  | some b =>
    obtain ⟨l, g⟩ := h
    exact ⟨l, g.map.step st (by rw [g.own]; exact h4), st.own g.map.lt g.own, g.keys, fun i hi => (g.rows i hi).step st h0⟩
/-- Owners: 1 the coordinator's struct, 2 the book's, 3 its slot's, 4 the map's. -/
structure TaskAt (H : Heap) (O : Ow) (t : TaskA) (ts : TaskS) : Prop where
  parts : RoF IV 0 H O ts.parts t.parts
  dealers : RoF IV 0 H O ts.dealers t.dealers
  list : RoF IV 0 H O ts.list t.list
  queue : RoF IV 0 H O ts.queue t.queue
  got : GotAt H O ts.got t.got
structure CoAt (H : Heap) (O : Ow) (cb fb bb sb N T K E R : Nat) (down : Bool) (s : Slt) (t : TaskA) (ts : TaskS) : Prop where
  blk : Blk H cb 122 (coordC N T K E R fb bb t ts)
  own : O cb = 1
  fld : IsField H fb
  fro : O fb = 0
  book : BkAt H O 2 3 bb sb N T K E R down s
  task : TaskAt H O t ts
variable {H H' : Heap} {O O' : Ow} {cb fb bb sb N T K E R : Nat} {down down' : Bool} {s s' : Slt} {t : TaskA} {ts : TaskS}
theorem TaskAt.step {S : Nat → Prop} (h : TaskAt H O t ts) (st : Step S H O H' O') (h0 : ¬ S 0) (h4 : ¬ S 4) : TaskAt H' O' t ts := ⟨h.parts.step st h0, h.dealers.step st h0, h.list.step st h0, h.queue.step st h0, h.got.step st h0 h4⟩
theorem TaskAt.zero (H : Heap) (O : Ow) : TaskAt H O task0 taskS0 := ⟨RoF.nil H O, RoF.nil H O, RoF.nil H O, RoF.nil H O, rfl⟩
theorem CoAt.ofBook {S : Nat → Prop} (h : CoAt H O cb fb bb sb N T K E R down s t ts) (st : Step S H O H' O') (h0 : ¬ S 0) (h1 : ¬ S 1) (h4 : ¬ S 4) (hb : BkAt H' O' 2 3 bb sb N T K E R down' s') : CoAt H' O' cb fb bb sb N T K E R down' s' t ts :=
  ⟨h.blk.step st (by rw [h.own]; exact h1), st.own h.blk.lt h.own, isField_chg h.fld st.chg (by rw [h.fro]; exact h0), st.own (hcell_lt (h.fld.exp 0 (by omega))) h.fro, hb, h.task.step st h0 h4⟩
theorem BkAt.step {S : Nat → Prop} {k1 k2 : Nat} (h : BkAt H O k1 k2 bb sb N T K E R down s) (st : Step S H O H' O') (h0 : ¬ S 0) (h1 : ¬ S k1) (h2 : ¬ S k2) : BkAt H' O' k1 k2 bb sb N T K E R down s :=
  ⟨h.blk.step st (by rw [h.own]; exact h1), st.own h.blk.lt h.own, h.slot.step st h2 h0, h.ne⟩
theorem CoAt.step {S : Nat → Prop} (h : CoAt H O cb fb bb sb N T K E R down s t ts) (st : Step S H O H' O') (h0 : ¬ S 0) (h1 : ¬ S 1) (h2 : ¬ S 2) (h3 : ¬ S 3) (h4 : ¬ S 4) : CoAt H' O' cb fb bb sb N T K E R down s t ts :=
  h.ofBook st h0 h1 h4 (h.book.step st h0 h2 h3)
theorem CoAt.ext (h : CoAt H O cb fb bb sb N T K E R down s t ts) (hw : WfO H O) (x : Ext H H') : CoAt H' O cb fb bb sb N T K E R down s t ts :=
  h.step (S := fun _ => False) (x.step hw) id id id id id
/-- Another task. -/
theorem CoAt.turn {t' : TaskA} {ts' : TaskS} (h : CoAt H O cb fb bb sb N T K E R down s t ts) (hw : WfO H O) (c : Chg (· = cb) H H') (b : Blk H' cb 122 (coordC N T K E R fb bb t' ts')) (ht : TaskAt H O t' ts') : CoAt H' O cb fb bb sb N T K E R down s t' ts' ∧ Step (· = 1) H O H' O := by
  have st : Step (· = 1) H O H' O := c.step hw fun x hx e => by subst e; exact h.own
  exact ⟨⟨b, h.own, isField_chg h.fld st.chg (by rw [h.fro]; decide), h.fro, h.book.step st (by decide) (by decide) (by decide), ht.step st (by decide) (by decide)⟩, st⟩
/-- What is answered. -/
structure AnsA where
  e : Int
  done : Bool
  data : List UInt8
  heads : List HdT
  list : List Int
structure AnsS where
  data : Sl
  heads : Sl
  list : Sl
def ansS0 : AnsS := ⟨Sl.nil, Sl.nil, Sl.nil⟩
def ans0 : AnsA := ⟨0, false, [], [], []⟩
def ansE (e : Int) : AnsA := ⟨e, true, [], [], []⟩
abbrev ansC (a : AnsA) (s : AnsS) : List Value := [IV a.e, .bool a.done, s.data.val, s.heads.val, s.list.val]
abbrev ansV (a : AnsA) (s : AnsS) : Value := .agg (ansC a s).toArray
theorem Blk.lay {H H1 : Heap} {b : Nat} {e : TypeId} {cs : List Value} (us : List Value) (b1 : Blk H1 b e cs) (x : Ext H H1) (hb : H.size ≤ b) (hp : puts cs 0 us = us) : Blk (hsets H1 b 0 us) b e us ∧ Ext H (hsets H1 b 0 us) :=
  ⟨by have := Blk.sets us 0 b1; rw [hp] at this; exact this, x.then (hsets_chg b us 0 H1) fun c hc => by omega⟩
theorem done_ok (e : Int) (H : Heap) : CallsH Tryz.prog 66 [IV e] H fun v H' => v = ansV (ansE e) ansS0 ∧ Ext H H' := by
  refine CallsH.enter h66 Tryz.func66 rfl rfl rfl (by decide) fun u => run ?_
  refine RegS.allocA fun H1 x1 z1 b1 => ?_
  have b1 : Blk H1 H.size 51 (ansC ans0 ansS0) := b1
  refine run ?_
  refine RegS.storeA (us := ansC (ansE e) ansS0) b1 ?_
  obtain ⟨b2, x2⟩ := Blk.lay (ansC (ansE e) ansS0) b1 x1 (Nat.le_refl _) rfl
  generalize hsets H1 H.size 0 (ansC (ansE e) ansS0) = H2 at b2 x2 ⊢
  refine run ?_
  exact retA1 b2 ⟨rfl, x2⟩
/-- A call. -/
structure StepA where
  kind : Int
  a : Int
  b : Int
  c : Int
  id : List UInt8
  data : List UInt8
abbrev stepC (x : StepA) (sd : Sl) : List Value := [IV x.kind, IV x.a, IV x.b, IV x.c, S x.id, sd.val]
end Go.Proofs.YtaikdcnifijcoaaGreat
set_option linter.unusedVariables false
set_option linter.unusedSimpArgs false
namespace Go.Proofs.YtaikdcnifijcoaaGreat
open Go Go.Vc Go.Gf
variable {H : Heap} {O : Ow} {cb fb bb sb N T K E R : Nat} {down : Bool} {s : Slt} {t : TaskA} {ts : TaskS}
theorem conew_ok (hw : WfO H O) : CallsH Tryz.prog 19 [pmV N T K E R] H fun r H' => ∃ cb fb bb sb O', r = ptrD cb ∧ Step (fun _ => False) H O H' O' ∧ CoAt H' O' cb fb bb sb N T K E R false (slt0 512) task0 taskS0 := by
  refine CallsH.enter h19 Tryz.func19 rfl rfl rfl (by decide) fun u => run ?_
  refine RegS.boxA fun H1 x1 z1 b1 => ?_
  have b1 : Blk H1 H.size 23 (pmL N T K E R) := b1
  refine run ?_
  refine RegP.call (newF_ok H1) ?_
  rintro _ H2 ⟨fb, rfl, hF, x2, hfb⟩
  refine ⟨.inl x2, ?_⟩
  have b2 := b1.ext x2
  have w2 := (hw.ext x1).ext x2
  refine run ?_
  refine RegP.call (bnew_ok (k1 := 2) (k2 := 3) w2 (by decide)) ?_
  rintro _ H3 ⟨bb, sb, O3, rfl, st, hs, hbb⟩
  have x3 : Ext H2 H3 := (Ext.refl _).then st.chg fun b hb => hb.elim
  refine ⟨.inl x3, ?_⟩
  refine run ?_
  refine RegP.boxA fun H4 x4 z4 b4 => ?_
  refine run ?_
  have z3 := x3.size
  have fl := hcell_lt (hF.exp 0 (by omega))
  have st4 : Step (fun _ => False) H O H4 O3 := ((((x1.trans x2).step hw).trans st).trans (x4.step st.wf))
  have z03 := ((x1.trans x2).trans x3).size
  have st5 : Step (fun _ => False) H3 O3 H4 (O3.give (fun x => x = H3.size) 1) := (x4.step st.wf).give fun x hx => by omega
  have h4 : BkAt H4 (O3.give (fun x => x = H3.size) 1) 2 3 bb sb N T K E R false (slt0 512) := hs.step st5 id id id
  have fl3 : fb < H2.size := fl
  have hfo : (O3.give (fun x => x = H3.size) 1) fb = 0 := by
    rw [Ow.give_neg (by omega), st.agr fb fl3]
    exact hw.new fb (by omega)
  exact ret1 ⟨H3.size, fb, bb, sb, O3.give (fun x => x = H3.size) 1, rfl, st4.give fun x hx => by omega, ⟨b4, Ow.give_pos rfl, (hF.ext x3).ext x4, hfo, h4, TaskAt.zero _ _⟩⟩
/-- Who is up, but one perhaps. -/
def upL (up : List Bool) (but : Int) (i : Nat) : List Int := ((List.range i).filter fun n => up.getD n false && decide ((n : Int) ≠ but)).map fun (n : Nat) => (n : Int)
theorem upL_succ (up : List Bool) (but : Int) (i : Nat) : upL up but (i + 1) = upL up but i ++ if up.getD i false = true ∧ (i : Int) ≠ but then [(i : Int)] else [] := by
  unfold upL
  rw [List.range_succ, List.filter_append, List.map_append]
  congr 1
  by_cases h : up.getD i false = true ∧ (i : Int) ≠ but
  · rw [if_pos h, List.filter_cons_of_pos (by simp only [Bool.and_eq_true, decide_eq_true_eq]; exact h)]; rfl
  · rw [if_neg h, List.filter_cons_of_neg (by simp only [Bool.and_eq_true, decide_eq_true_eq]; exact h)]; rfl
theorem upL_len (up : List Bool) (but : Int) (i : Nat) : (upL up but i).length ≤ i := by
  unfold upL
  rw [List.length_map]
  exact Nat.le_trans (List.length_filter_le _ _) (by simp)
theorem co_m_ok (h : CoAt H O cb fb bb sb N T K E R down s t ts) (hT : T ≤ 255) (hK : K ≤ 255) (hE : E ≤ 255) : CallsH Tryz.prog 74 [ptrD cb] H fun r H' => r = I64 (T + K + E) ∧ H = H' := by
  have hb := h.blk
  refine CallsH.enter h74 Tryz.func74 rfl rfl rfl (by decide) fun u => run ?_
  exact ret1 ⟨rfl, rfl⟩
theorem co_q_ok (h : CoAt H O cb fb bb sb N T K E R down s t ts) (hT : T ≤ 255) (hK : K ≤ 255) (hE : E ≤ 255) : CallsH Tryz.prog 75 [ptrD cb] H fun r H' => r = I64 (T + K + E + E) ∧ H = H' := by
  have hb := h.blk
  refine CallsH.enter h75 Tryz.func75 rfl rfl rfl (by decide) fun u => run ?_
  refine RegP.call (co_m_ok h hT hK hE) ?_
  rintro _ _ ⟨rfl, rfl⟩
  refine ⟨.inl (Ext.refl _), ?_⟩
  refine run ?_
  exact ret1 ⟨rfl, rfl⟩
theorem coTask_ok (h : CoAt H O cb fb bb sb N T K E R down s t ts) : CallsH Tryz.prog 24 [ptrD cb] H fun r H' => r = .tuple #[IV t.kind, IV t.session] ∧ H = H' := by
  have hb := h.blk
  refine CallsH.enter h24 Tryz.func24 rfl rfl rfl (by decide) fun u => run ?_
  exact ret2 ⟨rfl, rfl⟩
theorem coIdle_ok (h : CoAt H O cb fb bb sb N T K E R down s t ts) : CallsH Tryz.prog 73 [ptrD cb] H fun r H' => r = .bool (down || s.pw.gone || dec (t.kind = 0)) ∧ H = H' := by
  have hb := h.blk
  refine CallsH.enter h73 Tryz.func73 rfl rfl rfl (by decide) fun u => run ?_
  refine RegS.call (bdown_ok h.book) ?_
  rintro _ _ ⟨rfl, rfl⟩
  cases hd : (down || s.pw.gone) with
  | true =>
    refine run ?_
    exact ret1 ⟨rfl, rfl⟩
  | false =>
    refine run ?_
    exact ret1 ⟨rfl, rfl⟩
/-- A block of one's own. -/
theorem cell_new {H1 : Heap} (hw : WfO H O) (x : Ext H H1) (hz : H1.size = H.size + 1) : ∃ k9 O1, 5 ≤ k9 ∧ (∀ b, b < H.size → O b ≠ k9) ∧ Step (fun _ => False) H O H1 O1 ∧ O1 H.size = k9 := by
  obtain ⟨k9, h1, h2⟩ := owner_at O H.size 5
  exact ⟨k9, O.give (fun x => x = H.size) k9, h1, h2, (x.step hw).give fun x hx => by omega, Ow.give_pos rfl⟩
def Co (x : Nat) : Prop := 1 ≤ x ∧ x ≤ 4
/-- A store into a block of one's own. -/
theorem cell_set {A : Heap} {OA : Ow} {b k9 : Nat} {e : TypeId} {cs : List Value} (us : List Value) (hw : WfO A OA) (hb : Blk A b e cs) (ho : OA b = k9) (hp : puts cs 0 us = us) : Blk (hsets A b 0 us) b e us ∧ Step (· = k9) A OA (hsets A b 0 us) OA :=
  ⟨by have := Blk.sets us 0 hb; rw [hp] at this; exact this, (hsets_chg b us 0 A).step hw fun x _ e => by subst e; exact ho⟩
/-- The task is done. -/
theorem coEnd_ok (e : Int) (hw : WfO H O) (h : CoAt H O cb fb bb sb N T K E R down s t ts) : CallsH Tryz.prog 76 [ptrD cb, IV e] H fun r H' => r = .tuple #[ansV (ansE e) ansS0, Sl.nil.val] ∧ ∃ O', Step Co H O H' O' ∧ CoAt H' O' cb fb bb sb N T K E R down s task0 taskS0 := by
  refine CallsH.enter h76 Tryz.func76 rfl rfl rfl (by decide) fun u => run ?_
  refine RegS.allocA fun H1 x1 z1 b1 => ?_
  have b1 : Blk H1 H.size 51 (ansC ans0 ansS0) := b1
  obtain ⟨k9, O1, hk9, hno, st1, ho⟩ := cell_new hw x1 z1
  have h1 := h.step st1 id id id id id
  have hb1 := h1.blk
  refine run ?_
  refine RegS.storeA (us := taskC task0 taskS0) hb1 ?_
  have c2 := hsets_chg cb (taskC task0 taskS0) 7 H1
  have b2 : Blk (hsets H1 cb 7 (taskC task0 taskS0)) cb 122 (coordC N T K E R fb bb task0 taskS0) := Blk.sets (taskC task0 taskS0) 7 hb1
  obtain ⟨h2, st2⟩ := h1.turn st1.wf c2 b2 (TaskAt.zero _ _)
  have k2 := b1.step st2 (by omega)
  generalize hsets H1 cb 7 (taskC task0 taskS0) = H2 at b2 k2 h2 st2 ⊢
  refine run ?_
  refine RegS.call (done_ok e H2) ?_
  rintro _ H3 ⟨rfl, x3⟩
  refine run ?_
  refine RegS.storeA (us := ansC (ansE e) ansS0) (k2.ext x3) ?_
  obtain ⟨b4, st4⟩ := cell_set (ansC (ansE e) ansS0) (st2.wf.ext x3) (k2.ext x3) ho rfl
  generalize hsets H3 H.size 0 (ansC (ansE e) ansS0) = H4 at b4 st4 ⊢
  have h4 := (h2.ext st2.wf x3).step st4 (by omega) (by omega) (by omega) (by omega) (by omega)
  refine run ?_
  exact retcA (cs := ansC (ansE e) ansS0) b4 ⟨rfl, O1, Step.drop (S := fun x => Co x ∨ x = k9) (((st1.mono fun x h => h.elim).trans (st2.mono fun x e => by subst e; exact .inl ⟨by omega, by omega⟩)).trans (((x3.step st2.wf).mono (S := fun _ => False) fun x h => h.elim).trans (st4.mono fun x e => .inr e))) fun b hb hS => hS.elim id fun e => absurd e (hno b hb), h4⟩
end Go.Proofs.YtaikdcnifijcoaaGreat
set_option linter.unusedVariables false
set_option linter.unusedSimpArgs false
namespace Go.Proofs.YtaikdcnifijcoaaGreat
open Go Go.Vc Go.Gf
variable {H : Heap} {O : Ow} {cb fb bb sb N T K E R : Nat} {down : Bool} {s : Slt} {t : TaskA} {ts : TaskS}
set_option maxHeartbeats 2000000 in
theorem coUp_ok (v : BookA) (but : Int) (hbut : -9223372036854775808 ≤ but ∧ but ≤ 9223372036854775807) (hn : N ≤ 255) (hw : WfO H O) (h : CoAt H O cb fb bb sb N T K E R down s t ts) (hv : BkIs N s v) :
    CallsH Tryz.prog 68 [ptrD cb, IV but] H fun r H' => ∃ w : Sl, r = w.val ∧ RowF IV 0 H' w (upL v.up but N) ∧ Ext H H' ∧ ∀ b, w.blk = some b → H.size ≤ b := by
  have hb := h.blk
  have hup := hv.fit.up
  refine CallsH.enter h68 Tryz.func68 rfl rfl rfl (by decide) fun u => run ?_
  refine RegS.call (view_ok v hn hw h.book hv) ?_
  rintro _ H1 ⟨c, rfl, hi, x1, g1, g2, g3, nw⟩
  have hiu := hi.up
  have z1 := x1.size
  refine run ?_
  refine Wp.loop (ι := Nat × Sl) (fun i => [(0, ptrD cb), (1, IV but), (5, i.2.val), (13, c.up.val), (14, I64 v.up.length), (15, I64 i.1)]) (fun i A => i.1 ≤ N ∧ OwnF IV A H1.size 3 i.2 (upL v.up but i.1) ∧ Ext H1 A) (fun i => N - i.1) (0, Sl.nil) subs ⟨Nat.zero_le _, OwnR.nil _ _ _ _, Ext.refl _⟩ ?_
  rintro ⟨i, a⟩ A ⟨hi1, oA, xA⟩
  have hi1 : i ≤ N := hi1
  have oA : OwnF IV A H1.size 3 a (upL v.up but i) := oA
  have uA := hi.up.ext xA
  have hll := upL_len v.up but i
  have zA := xA.size
  have hsu := upL_succ v.up but i
  show Wp _ _ _ [(0, ptrD cb), (1, IV but), (5, a.val), (13, c.up.val), (14, I64 v.up.length), (15, I64 i)] _ _
  refine run ?_
  refine Wp.br (fun hlt => ?_) (fun hlt => ?_)
  · have hlt : (i : Int) < (v.up.length : Int) := hlt
    refine run ?_
    cases hu : v.up.getD i false with
    | false =>
      rw [hu, if_neg (by simp), List.append_nil] at hsu
      refine run ?_
      exact roundQ_n (i + 1, a) subs ⟨by show i + 1 ≤ N; omega, by show OwnF IV A H1.size 3 a (upL v.up but (i + 1)); rw [hsu]; exact oA, xA⟩ (by show N - (i + 1) < N - i; omega)
    | true =>
      rw [hu] at hsu
      refine run ?_
      refine Wp.br (fun hne => ?_) (fun hne => ?_)
      · have hne : (i : Int) ≠ but := hne
        rw [if_pos ⟨rfl, hne⟩] at hsu
        refine run ?_
        refine RegS.buildSlice fun A2 o2 y2 w2 => ?_
        have r2 : RowF IV 0 A2 (Sl.fresh A.size 1) [(i : Int)] := OwnR.rowF (f := IV) (l := [(i : Int)]) o2
        refine run ?_
        refine RegS.append (f := IV) (oA.ext y2) r2 (fun _ => rfl) (by have := y2.size; omega) ?_ ?_ ?_
        · simp only [List.length_singleton]; omega
        · simp only [List.length_singleton]; omega
        intro a' A3 o3 c3 b3
        refine run ?_
        exact roundQ_n (i + 1, a') subs ⟨by show i + 1 ≤ N; omega, by show OwnF IV A3 H1.size 3 a' (upL v.up but (i + 1)); rw [hsu]; exact o3, (xA.trans y2).then c3 fun b hb => (OwnR.blk_ge oA hb).1⟩ (by show N - (i + 1) < N - i; omega)
      · have hne : ¬ (i : Int) ≠ but := hne
        rw [if_neg fun h => hne h.2, List.append_nil] at hsu
        refine run ?_
        exact roundQ_n (i + 1, a) subs ⟨by show i + 1 ≤ N; omega, by show OwnF IV A H1.size 3 a (upL v.up but (i + 1)); rw [hsu]; exact oA, xA⟩ (by show N - (i + 1) < N - i; omega)
  · have hlt : ¬ (i : Int) < (v.up.length : Int) := hlt
    have hie : i = N := by omega
    subst hie
    refine run ?_
    exact ret1 ⟨a, rfl, OwnR.rowF oA, x1.trans xA, fun b hb => by have := (OwnR.blk_ge oA hb).1; omega⟩
/-- An object's place. -/
def AtR (l : List HdT) (id : List UInt8) (r : Int) : Prop := (∃ i : Nat, r = i ∧ i < l.length ∧ (l.getD i ([], 0)).1 = id ∧ ∀ j, j < i → (l.getD j ([], 0)).1 ≠ id) ∨ (r = -1 ∧ ∀ j, j < l.length → (l.getD j ([], 0)).1 ≠ id)
theorem cofind_fn {ib : Nat} (x : HdT) (id : List UInt8) (hi : Box H ib 9 (S id)) : CallsH Tryz.prog 203 [.agg #[S x.1, IV x.2], ptrD ib] H fun r H' => r = .bool (dec (x.1 = id)) ∧ Ext H H' := by
  refine CallsH.enter h203 Tryz.func203 rfl rfl rfl (by decide) fun u => run ?_
  refine RegS.boxA (cs := [S x.1, IV x.2]) fun H1 x1 z1 b1 => ?_
  have i1 := hi.ext x1
  refine run ?_
  exact ret1 ⟨rfl, x1⟩
set_option maxHeartbeats 2000000 in
theorem indexFn_ok {ib : Nat} (sl : Sl) (l : List HdT) (id : List UInt8) (hl : HRow H sl l) (hll : l.length ≤ 1000) (hi : Box H ib 9 (S id)) :
    CallsH Tryz.prog 202 [sl.val, .func (.func 203) #[] #[ptrD ib]] H fun r H' => (∃ i : Int, r = IV i ∧ AtR l id i) ∧ Ext H H' := by
  refine CallsH.enter h202 Tryz.func202 rfl rfl rfl (by decide) fun u => run ?_
  refine Wp.loop (ι := Nat) (fun i => [(0, sl.val), (1, .func (.func 203) #[] #[ptrD ib]), (7, I64 l.length), (8, I64 i)]) (fun i A => i ≤ l.length ∧ (∀ j, j < i → (l.getD j ([], 0)).1 ≠ id) ∧ Ext H A) (fun i => l.length - i) 0 subs ⟨Nat.zero_le _, fun j hj => absurd hj (Nat.not_lt_zero j), Ext.refl _⟩ ?_
  rintro i A ⟨hi1, hne, xA⟩
  have lA := hl.ext xA
  have iA := hi.ext xA
  refine run ?_
  refine Wp.br (fun hlt => ?_) (fun hlt => ?_)
  · have hlt : (i : Int) < (l.length : Int) := hlt
    refine run ?_
    refine RegS.call (cofind_fn (l.getD i ([], 0)) id iA) ?_
    rintro _ A1 ⟨rfl, y1⟩
    refine run ?_
    refine Wp.br (fun he => ?_) (fun he => ?_)
    · have he : (l.getD i ([], 0)).1 = id := he
      refine run ?_
      exact ret1 ⟨⟨i, rfl, .inl ⟨i, rfl, by omega, he, hne⟩⟩, xA.trans y1⟩
    · have he : ¬ (l.getD i ([], 0)).1 = id := he
      refine run ?_
      exact roundQ_n (i + 1) subs ⟨by omega, fun j hj => by
        rcases Nat.lt_succ_iff_lt_or_eq.1 hj with h | rfl
        · exact hne j h
        · exact he, xA.trans y1⟩ (by omega)
  · have hlt : ¬ (i : Int) < (l.length : Int) := hlt
    have hie : i = l.length := by omega
    subst hie
    refine run ?_
    exact ret1 ⟨⟨-1, rfl, .inr ⟨rfl, hne⟩⟩, xA⟩
abbrev hdA (x : HdT) : Value := .agg #[S x.1, IV x.2]
set_option maxHeartbeats 2000000 in
theorem coFind_ok (v : BookA) (id : List UInt8) (hn : N ≤ 255) (hw : WfO H O) (h : CoAt H O cb fb bb sb N T K E R down s t ts) (hv : BkIs N s v) :
    CallsH Tryz.prog 133 [ptrD cb, S id] H fun r H' => (∃ i : Int, AtR v.dir id i ∧ (i < 0 → r = .tuple #[hdA ([], 0), .bool false]) ∧ (0 ≤ i → r = .tuple #[hdA (v.dir.getD i.toNat ([], 0)), .bool true])) ∧ Ext H H' := by
  have hdl := hv.fit.dir
  refine CallsH.enter h133 Tryz.func133 rfl rfl rfl (by decide) fun u => run ?_
  refine RegS.box fun H1 x1 z1 b1 => ?_
  have b1 : Box H1 H.size 9 (S id) := ⟨b1⟩
  refine run ?_
  refine RegS.allocA fun H2 x2 z2 b2 => ?_
  have b2 : Blk H2 H1.size 79 [S [], IV 0] := b2
  have x02 := x1.trans x2
  have w2 := hw.ext x02
  have h2 := h.ext hw x02
  have hb2 := h2.blk
  refine run ?_
  refine RegS.call (view_ok v hn w2 h2.book hv) ?_
  rintro _ H3 ⟨c, rfl, hi, x3, g1, g2, g3, nw⟩
  have hd3 := hi.dir
  have i3 := (b1.ext x2).ext x3
  have c3 := b2.ext x3
  refine run ?_
  refine RegS.call (indexFn_ok c.dir v.dir id hd3 (by omega) i3) ?_
  rintro _ H4 ⟨⟨i, rfl, hat⟩, x4⟩
  have hd4 := hd3.ext x4
  have c4 := c3.ext x4
  have x24 := x3.trans x4
  have lt2 := b2.lt
  refine run ?_
  refine Wp.br (fun hlt => ?_) (fun hlt => ?_)
  · have hlt : i < 0 := hlt
    refine run ?_
    refine RegS.storeA (us := [S [], IV 0]) c4 ?_
    obtain ⟨b5, x5⟩ := Blk.lay [S [], IV 0] c4 (x02.trans x24) (by omega) rfl
    generalize hsets H4 H1.size 0 [S [], IV 0] = H5 at b5 x5 ⊢
    refine run ?_
    exact retcA (cs := [S [], IV 0]) b5 ⟨⟨i, hat, fun _ => rfl, fun h => absurd hlt (by omega)⟩, x5⟩
  · have hlt : ¬ i < ((0 : Nat) : Int) := hlt
    obtain ⟨j, rfl, hj, hid, hne⟩ : ∃ j : Nat, i = j ∧ j < v.dir.length ∧ (v.dir.getD j ([], 0)).1 = id ∧ ∀ k, k < j → (v.dir.getD k ([], 0)).1 ≠ id := by
      rcases hat with h | h
      · exact h
      · exact absurd h.1 (by omega)
    refine run ?_
    refine RegS.storeA (us := [S (v.dir.getD j ([], 0)).1, IV (v.dir.getD j ([], 0)).2]) c4 ?_
    obtain ⟨b5, x5⟩ := Blk.lay [S (v.dir.getD j ([], 0)).1, IV (v.dir.getD j ([], 0)).2] c4 (x02.trans x24) (by omega) rfl
    generalize hsets H4 H1.size 0 [S (v.dir.getD j ([], 0)).1, IV (v.dir.getD j ([], 0)).2] = H5 at b5 x5 ⊢
    refine run ?_
    exact retcA (cs := [S (v.dir.getD j ([], 0)).1, IV (v.dir.getD j ([], 0)).2]) b5 ⟨⟨j, hat, fun h => absurd h (by omega), fun _ => rfl⟩, x5⟩
end Go.Proofs.YtaikdcnifijcoaaGreat
set_option linter.unusedVariables false
set_option linter.unusedSimpArgs false
namespace Go.Proofs.YtaikdcnifijcoaaGreat
open Go Go.Vc
abbrev MsgP := MsgA × MsgS
def msgPC (p : MsgP) : List Value := msgC p.1 p.2
theorem msgPC_len (p : MsgP) : (msgPC p).length = 16 := rfl
/-- A list of messages. -/
structure MsgL (H : Heap) (s : Sl) (l : List MsgP) : Prop where
  row : CRow 16 msgPC (msg0, msgS0) H s l
  each : ∀ j, j < l.length → MsgIn H (l.getD j (msg0, msgS0)).1 (l.getD j (msg0, msgS0)).2
theorem MsgL.nil (H : Heap) : MsgL H Sl.nil [] := ⟨CRow.nil H, fun j hj => absurd hj (by simp)⟩
end Go.Proofs.YtaikdcnifijcoaaGreat
