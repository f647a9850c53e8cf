/-
  The walks of package coord: words, a coordinator that is none, a new one.
-/
import Derived.Test.YtaikdcnifijcoaaVBookB
import Derived.Test.YtaikdcnifijcoaaVCut
set_option linter.unusedVariables false
set_option linter.unusedSimpArgs false
namespace Go.Proofs.Ytaikdcnifijcoaa
open Go Go.Vc Go.Gf
/-- What is under way, and its slices. -/
structure TaskA where
  kind : Int
  session : Int
  phase : Int
  sort : Int
  target : Int
  head : HdT
  parts : List Int
  dealers : List Int
  list : List Int
  queue : List Int
  got : CV
structure TaskS where
  parts : Sl
  dealers : Sl
  list : Sl
  queue : Sl
  got : Option Nat
def task0 : TaskA := ⟨0, 0, 0, 0, 0, ([], 0), [], [], [], [], []⟩
def taskS0 : TaskS := ⟨Sl.nil, Sl.nil, Sl.nil, Sl.nil, none⟩
abbrev mapV (m : Option Nat) : Value := .map m
abbrev taskC (t : TaskA) (ts : TaskS) : List Value := [IV t.kind, IV t.session, IV t.phase, IV t.sort, IV t.target, S t.head.1, IV t.head.2, ts.parts.val, ts.dealers.val, ts.list.val, ts.queue.val, mapV ts.got]
abbrev coordC (N T K E R fb bb : Nat) (t : TaskA) (ts : TaskS) : List Value := [I64 N, I64 T, I64 K, I64 E, I64 R, fieldV fb, ptrD bb, IV t.kind, IV t.session, IV t.phase, IV t.sort, IV t.target, S t.head.1, IV t.head.2, ts.parts.val, ts.dealers.val, ts.list.val, ts.queue.val, mapV ts.got]
/-- What came. -/
structure GotRow (H : Heap) (O : Ow) (b : Nat) (l : SV) (c : CV) : Prop where
  map : MapI H b (kvs l)
  own : O b = 4
  keys : l.map (·.1) = c.map (·.1)
  rows : ∀ i, i < l.length → RoB H O (l.getD i (0, Sl.nil)).2 (c.getD i (0, [])).2
def GotAt (H : Heap) (O : Ow) (g : Option Nat) (c : CV) : Prop := match g with
  | none => c = []
  | some b => ∃ l, GotRow H O b l c
theorem GotAt.step {S : Nat → Prop} {H H' : Heap} {O O' : Ow} {g : Option Nat} {c : CV} (h : GotAt H O g c) (st : Step S H O H' O') (h0 : ¬ S 0) (h4 : ¬ S 4) : GotAt H' O' g c := by
  cases g with
  | none => exact h
  | some b =>
    obtain ⟨l, g⟩ := h
    exact ⟨l, g.map.step st (by rw [g.own]; exact h4), st.own g.map.lt g.own, g.keys, fun i hi => (g.rows i hi).step st h0⟩
/-- Owners: 1 the coordinator's struct, 2 the book's, 3 its slot's, 4 the map's. -/
structure TaskAt (H : Heap) (O : Ow) (t : TaskA) (ts : TaskS) : Prop where
  parts : RoF IV 0 H O ts.parts t.parts
  dealers : RoF IV 0 H O ts.dealers t.dealers
  list : RoF IV 0 H O ts.list t.list
  queue : RoF IV 0 H O ts.queue t.queue
  got : GotAt H O ts.got t.got
structure CoAt (H : Heap) (O : Ow) (cb fb bb sb N T K E R : Nat) (down : Bool) (s : Slt) (t : TaskA) (ts : TaskS) : Prop where
  blk : Blk H cb 60 (coordC N T K E R fb bb t ts)
  own : O cb = 1
  fld : IsField H fb
  fro : O fb = 0
  book : BkAt H O 2 3 bb sb N T K E R down s
  task : TaskAt H O t ts
variable {H H' : Heap} {O O' : Ow} {cb fb bb sb N T K E R : Nat} {down down' : Bool} {s s' : Slt} {t : TaskA} {ts : TaskS}
theorem TaskAt.step {S : Nat → Prop} (h : TaskAt H O t ts) (st : Step S H O H' O') (h0 : ¬ S 0) (h4 : ¬ S 4) : TaskAt H' O' t ts := ⟨h.parts.step st h0, h.dealers.step st h0, h.list.step st h0, h.queue.step st h0, h.got.step st h0 h4⟩
theorem TaskAt.zero (H : Heap) (O : Ow) : TaskAt H O task0 taskS0 := ⟨RoF.nil H O, RoF.nil H O, RoF.nil H O, RoF.nil H O, rfl⟩
theorem CoAt.ofBook {S : Nat → Prop} (h : CoAt H O cb fb bb sb N T K E R down s t ts) (st : Step S H O H' O') (h0 : ¬ S 0) (h1 : ¬ S 1) (h4 : ¬ S 4) (hb : BkAt H' O' 2 3 bb sb N T K E R down' s') : CoAt H' O' cb fb bb sb N T K E R down' s' t ts :=
  ⟨h.blk.step st (by rw [h.own]; exact h1), st.own h.blk.lt h.own, isField_chg h.fld st.chg (by rw [h.fro]; exact h0), st.own (hcell_lt (h.fld.exp 0 (by omega))) h.fro, hb, h.task.step st h0 h4⟩
theorem BkAt.step {S : Nat → Prop} {k1 k2 : Nat} (h : BkAt H O k1 k2 bb sb N T K E R down s) (st : Step S H O H' O') (h0 : ¬ S 0) (h1 : ¬ S k1) (h2 : ¬ S k2) : BkAt H' O' k1 k2 bb sb N T K E R down s :=
  ⟨h.blk.step st (by rw [h.own]; exact h1), st.own h.blk.lt h.own, h.slot.step st h2 h0, h.ne⟩
theorem CoAt.step {S : Nat → Prop} (h : CoAt H O cb fb bb sb N T K E R down s t ts) (st : Step S H O H' O') (h0 : ¬ S 0) (h1 : ¬ S 1) (h2 : ¬ S 2) (h3 : ¬ S 3) (h4 : ¬ S 4) : CoAt H' O' cb fb bb sb N T K E R down s t ts :=
  h.ofBook st h0 h1 h4 (h.book.step st h0 h2 h3)
theorem CoAt.ext (h : CoAt H O cb fb bb sb N T K E R down s t ts) (hw : WfO H O) (x : Ext H H') : CoAt H' O cb fb bb sb N T K E R down s t ts :=
  h.step (S := fun _ => False) (x.step hw) id id id id id
/-- Another task. -/
theorem CoAt.turn {t' : TaskA} {ts' : TaskS} (h : CoAt H O cb fb bb sb N T K E R down s t ts) (hw : WfO H O) (c : Chg (· = cb) H H') (b : Blk H' cb 60 (coordC N T K E R fb bb t' ts')) (ht : TaskAt H O t' ts') : CoAt H' O cb fb bb sb N T K E R down s t' ts' ∧ Step (· = 1) H O H' O := by
  have st : Step (· = 1) H O H' O := c.step hw fun x hx e => by subst e; exact h.own
  exact ⟨⟨b, h.own, isField_chg h.fld st.chg (by rw [h.fro]; decide), h.fro, h.book.step st (by decide) (by decide) (by decide), ht.step st (by decide) (by decide)⟩, st⟩
/-- What is answered. -/
structure AnsA where
  e : Int
  done : Bool
  data : List UInt8
  heads : List HdT
  list : List Int
structure AnsS where
  data : Sl
  heads : Sl
  list : Sl
def ansS0 : AnsS := ⟨Sl.nil, Sl.nil, Sl.nil⟩
def ans0 : AnsA := ⟨0, false, [], [], []⟩
def ansE (e : Int) : AnsA := ⟨e, true, [], [], []⟩
abbrev ansC (a : AnsA) (s : AnsS) : List Value := [IV a.e, .bool a.done, s.data.val, s.heads.val, s.list.val]
structure AnsIn (H : Heap) (a : AnsA) (s : AnsS) : Prop where
  data : Bytes H s.data a.data
  heads : HRow H s.heads a.heads
  list : RowF IV 0 H s.list a.list
theorem AnsIn.ext {a : AnsA} {s : AnsS} (h : AnsIn H a s) (x : Ext H H') : AnsIn H' a s := ⟨Bytes.ext h.data x, h.heads.ext x, h.list.ext x⟩
theorem ansIn0 (H : Heap) : AnsIn H ans0 ansS0 := ⟨Bytes.nil H, HRow.nil H, RowF.nil H⟩
theorem ansInE (H : Heap) (e : Int) : AnsIn H (ansE e) ansS0 := ⟨Bytes.nil H, HRow.nil H, RowF.nil H⟩
abbrev ansV (a : AnsA) (s : AnsS) : Value := .agg (ansC a s).toArray
theorem Blk.lay {H H1 : Heap} {b : Nat} {e : TypeId} {cs : List Value} (us : List Value) (b1 : Blk H1 b e cs) (x : Ext H H1) (hb : H.size ≤ b) (hp : puts cs 0 us = us) : Blk (hsets H1 b 0 us) b e us ∧ Ext H (hsets H1 b 0 us) :=
  ⟨by have := Blk.sets us 0 b1; rw [hp] at this; exact this, x.then (hsets_chg b us 0 H1) fun c hc => by omega⟩
theorem done_ok (e : Int) (H : Heap) : CallsH Try.prog 14 [IV e] H fun v H' => v = ansV (ansE e) ansS0 ∧ Ext H H' := by
  refine CallsH.enter h14 Try.func14 rfl rfl rfl (by decide) fun u => run ?_
  refine RegS.allocA fun H1 x1 z1 b1 => ?_
  have b1 : Blk H1 H.size 35 (ansC ans0 ansS0) := b1
  refine run ?_
  refine RegS.storeA (us := ansC (ansE e) ansS0) b1 ?_
  obtain ⟨b2, x2⟩ := Blk.lay (ansC (ansE e) ansS0) b1 x1 (Nat.le_refl _) rfl
  generalize hsets H1 H.size 0 (ansC (ansE e) ansS0) = H2 at b2 x2 ⊢
  refine run ?_
  exact retA1 b2 ⟨rfl, x2⟩
abbrev nilK : Value := .pointer none
theorem cnilTask_ok (H : Heap) : CallsH Try.prog 8 [nilK] H fun v H' => v = .tuple #[IV 0, IV 0] ∧ H = H' := by
  refine CallsH.enter h8 Try.func8 rfl rfl rfl (by decide) fun u => run ?_
  exact ret2 ⟨rfl, rfl⟩
theorem cnilBook_ok (H : Heap) : CallsH Try.prog 9 [nilK] H fun v H' => v = nilK ∧ H = H' := by
  refine CallsH.enter h9 Try.func9 rfl rfl rfl (by decide) fun u => run ?_
  exact ret1 ⟨rfl, rfl⟩
/-- A call. -/
structure StepA where
  kind : Int
  a : Int
  b : Int
  c : Int
  id : List UInt8
  data : List UInt8
abbrev stepC (x : StepA) (sd : Sl) : List Value := [IV x.kind, IV x.a, IV x.b, IV x.c, S x.id, sd.val]
theorem cnilCall_ok (x : StepA) (sd : Sl) (H : Heap) : CallsH Try.prog 7 [nilK, .agg (stepC x sd).toArray] H fun v H' => v = .tuple #[ansV (ansE 1) ansS0, Sl.nil.val] ∧ Ext H H' := by
  refine CallsH.enter h7 Try.func7 rfl rfl rfl (by decide) fun u => run ?_
  refine RegS.boxA fun H0 x0 z0 b0 => ?_
  refine run ?_
  refine RegS.allocA fun H1 x1 z1 b1 => ?_
  have b1 : Blk H1 H0.size 35 (ansC ans0 ansS0) := b1
  refine run ?_
  refine RegS.call (done_ok 1 H1) ?_
  rintro _ H2 ⟨rfl, x2⟩
  refine run ?_
  refine RegS.storeA (us := ansC (ansE 1) ansS0) (b1.ext x2) ?_
  obtain ⟨b3, x3⟩ := Blk.lay (ansC (ansE 1) ansS0) (b1.ext x2) (x1.trans x2) (Nat.le_refl _) rfl
  generalize hsets H2 H0.size 0 (ansC (ansE 1) ansS0) = H3 at b3 x3 ⊢
  refine run ?_
  exact retcA (cs := ansC (ansE 1) ansS0) b3 ⟨rfl, x0.trans x3⟩
end Go.Proofs.Ytaikdcnifijcoaa
