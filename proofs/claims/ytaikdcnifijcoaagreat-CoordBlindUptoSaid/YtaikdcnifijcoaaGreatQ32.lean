/-
  The walks of package coord: begin, enough, recover.
-/
import Derived.Test.YtaikdcnifijcoaaGreatQ26
import Derived.Test.YtaikdcnifijcoaaGreatQ31
set_option linter.unusedVariables false
set_option linter.unusedSimpArgs false
namespace Go.Proofs.YtaikdcnifijcoaaGreat
open Go Go.Vc Go.Gf
/-- The coordinator: its slot, its book, its task. -/
structure CSt where
  s : Slt
  v : BookA
  t : TaskA
/-- What a call comes to. -/
abbrev COut := AnsA × List MsgA × CSt
def cEnd (e : Int) (c : CSt) : COut := (ansE e, [], { c with t := task0 })
def cTask (c : CSt) (phase sort target : Int) (l : List Int) : TaskA := { c.t with session := c.v.session + 1, phase := phase, sort := sort, target := target, parts := l, got := [] }
def cBegin (down : Bool) (phase sort target : Int) (l : List Int) (c : CSt) : COut :=
  if (begA down c.s c.v).2 ≠ 0 then cEnd (begA down c.s c.v).2 ⟨(begA down c.s c.v).1, bkV down c.s c.v (nextA c.v).1 (nextA c.v).2, c.t⟩ else
  (ans0, askL (cTask c phase sort target l) (nextA c.v).1 (askWho (cTask c phase sort target l)), ⟨(begA down c.s c.v).1, (nextA c.v).1, cTask c phase sort target l⟩)
def cEnough (down : Bool) (least : Nat) (phase sort target : Int) (l : List Int) (c : CSt) : COut := if l.length < least then cEnd 5 c else cBegin down phase sort target l c
def cRecover (down : Bool) (N m : Nat) (target : Int) (c : CSt) : COut := cEnough down m 3 3 target (upL c.v.up target N) c
structure InN (N : Nat) (l : List Int) : Prop where
  len : l.length ≤ N
  mem : ∀ n ∈ l, 0 ≤ n ∧ n < N
theorem InN.nil (N : Nat) : InN N [] := ⟨Nat.zero_le _, fun n hn => by cases hn⟩
theorem upL_in (up : List Bool) (but : Int) (N : Nat) : InN N (upL up but N) := by
  refine ⟨upL_len _ _ _, fun n hn => ?_⟩
  unfold upL at hn
  obtain ⟨k, hk, rfl⟩ := List.mem_map.1 hn
  have := List.mem_range.1 (List.mem_filter.1 hk).1
  omega
structure TaskOk (N : Nat) (t : TaskA) : Prop where
  phase : 0 ≤ t.phase ∧ t.phase ≤ 4
  parts : InN N t.parts
  dealers : InN N t.dealers
  queue : InN N t.queue
  got : ∀ p ∈ t.got, 0 ≤ p.1 ∧ p.1 < N
  keys : (t.got.map (·.1)).Nodup
theorem taskOk0 (N : Nat) : TaskOk N task0 := ⟨by simp [task0], InN.nil N, InN.nil N, InN.nil N, by simp [task0], by simp [task0]⟩
structure CoIs (H : Heap) (O : Ow) (cb fb bb sb N T K E R : Nat) (down : Bool) (c : CSt) (ts : TaskS) : Prop where
  at_ : CoAt H O cb fb bb sb N T K E R down c.s c.t ts
  is : BkIs N c.s c.v
  ok : TaskOk N c.t
structure AnsRo (H : Heap) (O : Ow) (a : AnsA) (s : AnsS) : Prop where
  data : RoB H O s.data a.data
  heads : RoH H O s.heads a.heads
  list : RoF IV 0 H O s.list a.list
def Zo (O : Ow) (s : Sl) : Prop := 0 < s.len → ∀ b, s.blk = some b → O b = 0
structure MsgRo (H : Heap) (O : Ow) (w : Sl) (L : List MsgP) : Prop where
  list : MsgL H w L
  row : Zo O w
  hd : ∀ j, j < L.length → Zo O (L.getD j (msg0, msgS0)).2.hd
  de : ∀ j, j < L.length → Zo O (L.getD j (msg0, msgS0)).2.de
  pa : ∀ j, j < L.length → Zo O (L.getD j (msg0, msgS0)).2.pa
  da : ∀ j, j < L.length → Zo O (L.getD j (msg0, msgS0)).2.da
section
variable {S : Nat → Prop} {H H' A B : Heap} {O O' OA : Ow} {cb fb bb sb N T K E R : Nat} {down : Bool} {c : CSt} {ts : TaskS}
theorem AnsRo.step {a : AnsA} {s : AnsS} (h : AnsRo H O a s) (st : Step S H O H' O') (h0 : ¬ S 0) : AnsRo H' O' a s := ⟨h.data.step st h0, h.heads.step st h0, h.list.step st h0⟩
theorem ansRoE (H : Heap) (O : Ow) (e : Int) : AnsRo H O (ansE e) ansS0 := ⟨RoF.nil H O, RoH.nil H O, RoF.nil H O⟩
theorem ansRo0 (H : Heap) (O : Ow) : AnsRo H O ans0 ansS0 := ⟨RoF.nil H O, RoH.nil H O, RoF.nil H O⟩
theorem MsgRo.nil (H : Heap) (O : Ow) : MsgRo H O Sl.nil [] := ⟨MsgL.nil H, fun hp => by simp [Sl.nil] at hp, fun j hj => absurd hj (by simp), fun j hj => absurd hj (by simp), fun j hj => absurd hj (by simp), fun j hj => absurd hj (by simp)⟩
theorem Zo.lt {s : Sl} (z : Zo O s) (st : Step S H O H' O') (hl : 0 < s.len → ∀ b, s.blk = some b → b < H.size) : Zo O' s := fun hp b hb => (st.agr b (hl hp b hb)).trans (z hp b hb)
theorem MsgRo.step {w : Sl} {L : List MsgP} (h : MsgRo H O w L) (st : Step S H O H' O') (h0 : ¬ S 0) : MsgRo H' O' w L := by
  have n0 : ∀ {x}, O x = 0 → ¬ S (O x) := fun e => by rw [e]; exact h0
  have hlt : 0 < w.len → ∀ b, w.blk = some b → b < H.size := h.list.row.lt msgPC_len (by omega)
  refine ⟨⟨h.list.row.chgN msgPC_len (by omega) st.chg fun hp b hb => n0 (h.row hp b hb), fun j hj => ?_⟩, h.row.lt st hlt, fun j hj => (h.hd j hj).lt st (h.list.each j hj).hd.lt, fun j hj => (h.de j hj).lt st (h.list.each j hj).de.lt, fun j hj => (h.pa j hj).lt st (h.list.each j hj).pa.lt, fun j hj => (h.da j hj).lt st (RowF.lt (h.list.each j hj).da)⟩
  obtain ⟨h1, h2, h3, h4⟩ := h.list.each j hj
  exact ⟨h1.chgN st.chg fun hp b hb => n0 (h.hd j hj hp b hb), h2.chgN st.chg fun hp b hb => ⟨h2.lt hp b hb, n0 (h.de j hj hp b hb)⟩, h3.chgN st.chg fun hp b hb => ⟨h3.lt hp b hb, n0 (h.pa j hj hp b hb)⟩, RowF.chgN h4 st.chg fun hp b hb => ⟨RowF.lt h4 hp b hb, n0 (h.da j hj hp b hb)⟩⟩
theorem CoIs.step (h : CoIs H O cb fb bb sb N T K E R down c ts) (st : Step S H O H' O') (h0 : ¬ S 0) (h1 : ¬ S 1) (h2 : ¬ S 2) (h3 : ¬ S 3) (h4 : ¬ S 4) : CoIs H' O' cb fb bb sb N T K E R down c ts := ⟨h.at_.step st h0 h1 h2 h3 h4, h.is, h.ok⟩
/-- A task that waits. -/
def Rest (t : TaskA) (ts : TaskS) : Prop := t.kind ≠ 0 → ts.got.isSome = true ∧ (t.sort = 4 → ts.queue = Sl.nil)
/-- What a walk comes to. -/
def OutR (H : Heap) (O : Ow) (cb fb bb sb N T K E R : Nat) (down : Bool) (p : COut) (r : Value) (H' : Heap) : Prop :=
  ∃ (sa : AnsS) (w : Sl) (L : List MsgP) (O' : Ow) (ts' : TaskS), r = .tuple #[ansV p.1 sa, w.val] ∧ AnsRo H' O' p.1 sa ∧ MsgRo H' O' w L ∧ L.map (·.1) = p.2.1 ∧ Step Co H O H' O' ∧ CoIs H' O' cb fb bb sb N T K E R down p.2.2 ts' ∧ Rest p.2.2.t ts'
theorem co_no {k : Nat} (h : 5 ≤ k) : ¬ Co k := fun c => by have := c.2; omega
theorem co0 : ¬ Co 0 := fun c => by have := c.1; omega
/-- A walk within a walk: its answer is laid into one's own block. -/
theorem OutR.close {p : COut} {r : Value} {b k9 : Nat} {cs : List Value} (st : Step (fun x => Co x ∨ x = k9) H O A OA) (hno : ∀ b, b < H.size → O b ≠ k9) (h : OutR A OA cb fb bb sb N T K E R down p r B) (hb : Blk A b 51 cs) (ho : OA b = k9) (hk : 5 ≤ k9) (hl : cs.length = 5) :
    ∃ (sa : AnsS) (w : Sl), r = .tuple #[ansV p.1 sa, w.val] ∧ Blk B b 51 cs ∧ Blk (hsets B b 0 (ansC p.1 sa)) b 51 (ansC p.1 sa) ∧ OutR H O cb fb bb sb N T K E R down p (.tuple #[ansV p.1 sa, w.val]) (hsets B b 0 (ansC p.1 sa)) := by
  obtain ⟨sa, w, L, OB, ts', rfl, ha, hm, hL, stB, hc, hg⟩ := h
  have kB := hb.step stB (by rw [ho]; exact co_no hk)
  have oB : OB b = k9 := stB.own hb.lt ho
  have h5 : puts cs 0 (ansC p.1 sa) = ansC p.1 sa := by
    match cs, hl with
    | [_, _, _, _, _], _ => rfl
  obtain ⟨b5, st5⟩ := cell_set (ansC p.1 sa) stB.wf kB oB h5
  refine ⟨sa, w, rfl, kB, b5, sa, w, L, OB, ts', rfl, ha.step st5 (by omega), hm.step st5 (by omega), hL, ?_, hc.step st5 (by omega) (by omega) (by omega) (by omega) (by omega), hg⟩
  exact Step.drop (S := fun x => Co x ∨ x = k9) ((st.trans (stB.mono fun x e => .inl e)).trans (st5.mono fun x e => .inr e)) fun b hb hS => hS.elim id fun e => absurd e (hno b hb)
theorem coEndR_ok {e : Int} (hw : WfO H O) (h : CoIs H O cb fb bb sb N T K E R down c ts) : CallsH Tryz.prog 76 [ptrD cb, IV e] H (OutR H O cb fb bb sb N T K E R down (cEnd e c)) :=
  (coEnd_ok e hw h.at_).mono fun r H' hr => by
    obtain ⟨rfl, O', st, h'⟩ := hr
    exact ⟨ansS0, Sl.nil, [], O', taskS0, rfl, ansRoE _ _ _, MsgRo.nil _ _, rfl, st, ⟨h', h.is, taskOk0 N⟩, fun hk => absurd rfl hk⟩
end
end Go.Proofs.YtaikdcnifijcoaaGreat
set_option linter.unusedVariables false
set_option linter.unusedSimpArgs false
namespace Go.Proofs.YtaikdcnifijcoaaGreat
open Go Go.Vc Go.Gf
section
variable {S : Nat → Prop} {H H' A B : Heap} {O O' OA : Ow} {cb fb bb sb N T K E R : Nat} {down : Bool} {c : CSt} {ts : TaskS}
theorem begA_zero {s : Slt} {v : BookA} (hv : BkIs N s v) (h : (begA down s v).2 = 0) : (down || s.pw.gone) = false ∧ BkIs N (begA down s v).1 (nextA v).1 := by
  obtain ⟨h1, h2, h3, h4⟩ := bk_zero (v := v) h
  have := bk_is (down := down) (v' := (nextA v).1) (e := (nextA v).2) hv fun _ => nextA_fit hv.fit
  rw [h4] at this
  exact ⟨h1, this⟩
theorem msgRo_new {w : Sl} {L : List MsgP} (hw : WfO H O) (h : MsgL H' w L) (g : ∀ b, w.blk = some b → H.size ≤ b) (gm : ∀ j, j < L.length → MsgGe H.size (L.getD j (msg0, msgS0)).2) : MsgRo H' O w L :=
  ⟨h, fun _ b hb => hw.new b (g b hb), fun j hj _ b hb => hw.new b ((gm j hj).hd b hb), fun j hj _ b hb => hw.new b ((gm j hj).de b hb), fun j hj _ b hb => hw.new b ((gm j hj).pa b hb), fun j hj _ b hb => hw.new b ((gm j hj).da b hb)⟩
set_option maxHeartbeats 8000000 in
theorem coBegin_ok (phase sort target : Int) (w : Sl) (l : List Int) (hn : N ≤ 255) (hw : WfO H O) (h : CoIs H O cb fb bb sb N T K E R down c ts) (hl : RoF IV 0 H O w l) (hin : InN N l) (hp : 1 ≤ phase ∧ phase ≤ 3) (hq4 : sort = 4 → ts.queue = Sl.nil) :
    CallsH Tryz.prog 134 [ptrD cb, IV phase, IV sort, IV target, w.val] H (OutR H O cb fb bb sb N T K E R down (cBegin down phase sort target l c)) := by
  obtain ⟨hat, his, hok⟩ := h
  refine CallsH.enter h134 Tryz.func134 rfl rfl rfl (by decide) fun u => run ?_
  refine RegS.allocA fun H1 x1 z1 b1 => ?_
  have b1 : Blk H1 H.size 51 (ansC ans0 ansS0) := b1
  obtain ⟨k9, O1, hk9, hno, st1, ho⟩ := cell_new hw x1 z1
  have h1 := hat.step st1 id id id id id
  have hb1 := h1.blk
  refine run ?_
  refine RegS.call (begin_ok c.v hn st1.wf h1.book his) ?_
  rintro _ H2 ⟨rfl, O2, st2, hk2⟩
  have h2 := h1.ofBook st2 (by decide) (by decide) (by decide) hk2
  have hb2 := h2.blk
  have kb2 := b1.step st2 (by omega)
  have ho2 := st2.own b1.lt ho
  have st02 : Step (fun x => Co x ∨ x = k9) H O H2 O2 := (st1.mono fun x e => e.elim).trans (st2.mono fun x e => by subst e; exact .inl ⟨by omega, by omega⟩)
  by_cases he : (begA down c.s c.v).2 = 0
  case neg =>
    rw [if_neg he]
    refine run ?_
    refine RegS.call (coEndR_ok (c := ⟨(begA down c.s c.v).1, bkV down c.s c.v (nextA c.v).1 (nextA c.v).2, c.t⟩) (e := ((begA down c.s c.v).2 : Nat)) st2.wf ⟨h2, bk_is his fun _ => nextA_fit his.fit, hok⟩) ?_
    rintro r H3 hr
    obtain ⟨sa, w', rfl, kB, b4, hout⟩ := OutR.close st02 hno hr kb2 ho2 hk9 rfl
    refine run ?_
    refine RegS.storeA (us := ansC (cEnd ((begA down c.s c.v).2 : Nat) ⟨(begA down c.s c.v).1, bkV down c.s c.v (nextA c.v).1 (nextA c.v).2, c.t⟩).1 sa) kB ?_
    have e : cBegin down phase sort target l c = cEnd ((begA down c.s c.v).2 : Nat) ⟨(begA down c.s c.v).1, bkV down c.s c.v (nextA c.v).1 (nextA c.v).2, c.t⟩ := if_pos he
    rw [e]
    generalize hsets H3 H.size 0 (ansC (cEnd ((begA down c.s c.v).2 : Nat) ⟨(begA down c.s c.v).1, bkV down c.s c.v (nextA c.v).1 (nextA c.v).2, c.t⟩).1 sa) = H4 at b4 hout ⊢
    refine run ?_
    exact retcA b4 hout
  obtain ⟨hdn, his1⟩ := begA_zero (down := down) his he
  have hcb : cBegin down phase sort target l c = (ans0, askL (cTask c phase sort target l) (nextA c.v).1 (askWho (cTask c phase sort target l)), ⟨(begA down c.s c.v).1, (nextA c.v).1, cTask c phase sort target l⟩) := if_neg (by simpa using he)
  rw [hcb, if_pos he, he]
  refine run ?_
  obtain ⟨A0, rfl⟩ : ∃ A0, A0 = H2 := ⟨_, rfl⟩
  have b0 := hb2
  refine RegS.store (v := IV (c.v.session + 1)) (Blk.wr b0 (j := 8) (by simp)) ?_
  have b1 : Blk (hset A0 ⟨cb, 8, none⟩ (IV (c.v.session + 1))) cb 122 (coordC N T K E R fb bb { c.t with session := c.v.session + 1 } ts) := Blk.set (j := 8) (v := IV (c.v.session + 1)) b0
  have c1 : Chg (· = cb) A0 (hset A0 ⟨cb, 8, none⟩ (IV (c.v.session + 1))) := hset_chg A0 ⟨cb, 8, none⟩ (IV (c.v.session + 1))
  generalize hset A0 ⟨cb, 8, none⟩ (IV (c.v.session + 1)) = A1 at b1 c1 ⊢
  refine run ?_
  refine RegS.store (v := IV phase) (Blk.wr b1 (j := 9) (by simp)) ?_
  have b2 : Blk (hset A1 ⟨cb, 9, none⟩ (IV phase)) cb 122 (coordC N T K E R fb bb { c.t with session := c.v.session + 1, phase := phase } ts) := Blk.set (j := 9) (v := IV phase) b1
  have c2 : Chg (· = cb) A1 (hset A1 ⟨cb, 9, none⟩ (IV phase)) := hset_chg A1 ⟨cb, 9, none⟩ (IV phase)
  generalize hset A1 ⟨cb, 9, none⟩ (IV phase) = A2 at b2 c2 ⊢
  refine run ?_
  refine RegS.store (v := IV sort) (Blk.wr b2 (j := 10) (by simp)) ?_
  have b3 : Blk (hset A2 ⟨cb, 10, none⟩ (IV sort)) cb 122 (coordC N T K E R fb bb { c.t with session := c.v.session + 1, phase := phase, sort := sort } ts) := Blk.set (j := 10) (v := IV sort) b2
  have c3 : Chg (· = cb) A2 (hset A2 ⟨cb, 10, none⟩ (IV sort)) := hset_chg A2 ⟨cb, 10, none⟩ (IV sort)
  generalize hset A2 ⟨cb, 10, none⟩ (IV sort) = A3 at b3 c3 ⊢
  refine run ?_
  refine RegS.store (v := IV target) (Blk.wr b3 (j := 11) (by simp)) ?_
  have b4 : Blk (hset A3 ⟨cb, 11, none⟩ (IV target)) cb 122 (coordC N T K E R fb bb { c.t with session := c.v.session + 1, phase := phase, sort := sort, target := target } ts) := Blk.set (j := 11) (v := IV target) b3
  have c4 : Chg (· = cb) A3 (hset A3 ⟨cb, 11, none⟩ (IV target)) := hset_chg A3 ⟨cb, 11, none⟩ (IV target)
  generalize hset A3 ⟨cb, 11, none⟩ (IV target) = A4 at b4 c4 ⊢
  refine run ?_
  refine RegS.store (v := w.val) (Blk.wr b4 (j := 14) (by simp)) ?_
  have b5 : Blk (hset A4 ⟨cb, 14, none⟩ (w.val)) cb 122 (coordC N T K E R fb bb { c.t with session := c.v.session + 1, phase := phase, sort := sort, target := target, parts := l } { ts with parts := w }) := Blk.set (j := 14) (v := w.val) b4
  have c5 : Chg (· = cb) A4 (hset A4 ⟨cb, 14, none⟩ (w.val)) := hset_chg A4 ⟨cb, 14, none⟩ (w.val)
  generalize hset A4 ⟨cb, 14, none⟩ (w.val) = A5 at b5 c5 ⊢
  refine run ?_
  have c05 := (((c1.trans c2).trans c3).trans c4).trans c5
  obtain ⟨h5, st5⟩ := h2.turn (t' := { c.t with session := c.v.session + 1, phase := phase, sort := sort, target := target, parts := l }) (ts' := { ts with parts := w }) st2.wf c05 b5 (by
    have ht := h2.task
    exact ⟨hl.step st02 (fun hS => hS.elim co0 (by omega)), ht.dealers, ht.list, ht.queue, ht.got⟩)
  have kb5 := kb2.step st5 (by omega)
  have hF5 := h5.fld
  refine RegS.makeMap fun A6 m6 x6 z6 => ?_
  have st6 : Step (fun _ => False) A5 O2 A6 (O2.give (fun x => x = A5.size) 4) := (x6.step st5.wf).give fun x hx => by omega
  have om6 : (O2.give (fun x => x = A5.size) 4) A5.size = 4 := Ow.give_pos rfl
  generalize O2.give (fun x => x = A5.size) 4 = O6 at st6 om6
  have h6 := h5.step st6 id id id id id
  have b6 := h6.blk
  have kb6 := kb5.step st6 id
  have ho6 := st6.own kb5.lt ho2
  have lcb := h5.blk.lt
  refine run ?_
  refine RegS.store (v := mapV (some A5.size)) (Blk.wr b6 (j := 18) (by simp)) ?_
  have b7 : Blk (hset A6 ⟨cb, 18, none⟩ (mapV (some A5.size))) cb 122 (coordC N T K E R fb bb (cTask c phase sort target l) { ts with parts := w, got := some A5.size }) := Blk.set (j := 18) (v := mapV (some A5.size)) b6
  have c7 : Chg (· = cb) A6 (hset A6 ⟨cb, 18, none⟩ (mapV (some A5.size))) := hset_chg A6 ⟨cb, 18, none⟩ (mapV (some A5.size))
  generalize hset A6 ⟨cb, 18, none⟩ (mapV (some A5.size)) = A7 at b7 c7 ⊢
  have m7 : MapI A7 A5.size [] := m6.chg c7 (by omega)
  have g7 : GotRow A7 O6 A5.size [] (cTask c phase sort target l).got := ⟨m7, om6, rfl, fun i hi => absurd hi (by simp)⟩
  obtain ⟨h7, st7⟩ := h6.turn (t' := cTask c phase sort target l) (ts' := { ts with parts := w, got := some A5.size }) st6.wf c7 b7 (by
    have ht := h6.task
    exact ⟨ht.parts, ht.dealers, ht.list, ht.queue, [], m6, om6, rfl, fun i hi => absurd hi (by simp)⟩)
  have kb7 := kb6.step st7 (by omega)
  have hph : (cTask c phase sort target l).phase = phase := rfl
  have hwho : askWho (cTask c phase sort target l) = l := if_neg (by rw [hph]; omega)
  refine run ?_
  refine RegS.call (coAsk_ok (nextA c.v).1 A5.size [] hn st7.wf h7 his1 rfl g7 (by rw [hph]; omega) (by have := hin.len; show l.length ≤ 1000; omega) (by have := hok.dealers.len; show c.t.dealers.length ≤ 1000; omega) (by rw [hwho]; exact hin.mem)) ?_
  rintro _ A8 ⟨w', L, rfl, hL, eL, x8, gw, gm⟩
  have st8 : Step (fun _ => False) A7 O6 A8 O6 := x8.step st7.wf
  have kb8 := kb7.step st8 id
  have ro8 := msgRo_new st7.wf hL gw gm
  refine run ?_
  refine RegS.storeA (us := ansC ans0 ansS0) kb8 ?_
  obtain ⟨b9, st9⟩ := cell_set (ansC ans0 ansS0) st8.wf kb8 ho6 rfl
  generalize hsets A8 H.size 0 (ansC ans0 ansS0) = A9 at b9 st9 ⊢
  have h9 := (h7.step st8 id id id id id).step st9 (by omega) (by omega) (by omega) (by omega) (by omega)
  have ro9 := ro8.step st9 (by omega)
  have w1 : ∀ {X Y : Heap} {P Q : Ow}, Step (· = 1) X P Y Q → Step (fun x => Co x ∨ x = k9) X P Y Q := fun h => h.mono fun x e => by subst e; exact .inl ⟨by omega, by omega⟩
  have w0 : ∀ {X Y : Heap} {P Q : Ow}, Step (fun _ => False) X P Y Q → Step (fun x => Co x ∨ x = k9) X P Y Q := fun h => h.mono fun x e => e.elim
  have stF := ((((st02.trans (w1 st5)).trans (w0 st6)).trans (w1 st7)).trans (w0 st8)).trans (st9.mono fun x e => .inr e)
  refine run ?_
  exact retcA (cs := ansC ans0 ansS0) b9 ⟨ansS0, w', L, O6, _, rfl, ansRo0 _ _, ro9, eL, Step.drop stF fun b hb hS => hS.elim id fun e => absurd e (hno b hb), ⟨h9, his1, ⟨by rw [hph]; omega, hin, hok.dealers, hok.queue, fun p hp => (by cases hp), List.nodup_nil⟩⟩, fun _ => ⟨rfl, hq4⟩⟩
end
end Go.Proofs.YtaikdcnifijcoaaGreat
