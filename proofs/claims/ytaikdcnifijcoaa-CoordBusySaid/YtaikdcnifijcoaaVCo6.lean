/-
  Package coord: what a call comes to, in plain words; the walks of end, begin, enough, recover.
-/
import Derived.Test.YtaikdcnifijcoaaVCo5
import Derived.Test.YtaikdcnifijcoaaVBookB
set_option linter.unusedVariables false
set_option linter.unusedSimpArgs false
namespace Go.Proofs.Ytaikdcnifijcoaa
open Go Go.Vc Go.Gf
/-- The coordinator: its slot, its book, its task. -/
structure CSt where
  s : Slt
  v : BookA
  t : TaskA
/-- What a call comes to. -/
abbrev COut := AnsA × List MsgA × CSt
def cEnd (e : Int) (c : CSt) : COut := (ansE e, [], { c with t := task0 })
def cTask (c : CSt) (phase sort target : Int) (l : List Int) : TaskA := { c.t with session := c.v.session + 1, phase := phase, sort := sort, target := target, parts := l, got := [] }
def cBegin (down : Bool) (phase sort target : Int) (l : List Int) (c : CSt) : COut :=
  if (begA down c.s c.v).2 ≠ 0 then cEnd (begA down c.s c.v).2 ⟨(begA down c.s c.v).1, bkV down c.s c.v (nextA c.v).1 (nextA c.v).2, c.t⟩ else
  (ans0, askL (cTask c phase sort target l) (nextA c.v).1 (askWho (cTask c phase sort target l)), ⟨(begA down c.s c.v).1, (nextA c.v).1, cTask c phase sort target l⟩)
def cEnough (down : Bool) (least : Nat) (phase sort target : Int) (l : List Int) (c : CSt) : COut := if l.length < least then cEnd 5 c else cBegin down phase sort target l c
def cRecover (down : Bool) (N m : Nat) (target : Int) (c : CSt) : COut := cEnough down m 3 3 target (upL c.v.up target N) c
structure InN (N : Nat) (l : List Int) : Prop where
  len : l.length ≤ N
  mem : ∀ n ∈ l, 0 ≤ n ∧ n < N
theorem InN.nil (N : Nat) : InN N [] := ⟨Nat.zero_le _, fun n hn => by cases hn⟩
theorem upL_in (up : List Bool) (but : Int) (N : Nat) : InN N (upL up but N) := by
  refine ⟨upL_len _ _ _, fun n hn => ?_⟩
  unfold upL at hn
  obtain ⟨k, hk, rfl⟩ := List.mem_map.1 hn
  have := List.mem_range.1 (List.mem_filter.1 hk).1
  omega
structure TaskOk (N : Nat) (t : TaskA) : Prop where
  phase : 0 ≤ t.phase ∧ t.phase ≤ 4
  parts : InN N t.parts
  dealers : InN N t.dealers
theorem taskOk0 (N : Nat) : TaskOk N task0 := ⟨by simp [task0], InN.nil N, InN.nil N⟩
structure CoIs (H : Heap) (O : Ow) (cb fb bb sb N T K E R : Nat) (down : Bool) (c : CSt) (ts : TaskS) : Prop where
  at_ : CoAt H O cb fb bb sb N T K E R down c.s c.t ts
  is : BkIs N c.s c.v
  ok : TaskOk N c.t
structure AnsRo (H : Heap) (O : Ow) (a : AnsA) (s : AnsS) : Prop where
  data : RoB H O s.data a.data
  heads : RoH H O s.heads a.heads
  list : RoF IV 0 H O s.list a.list
def Zo (O : Ow) (s : Sl) : Prop := 0 < s.len → ∀ b, s.blk = some b → O b = 0
structure MsgRo (H : Heap) (O : Ow) (w : Sl) (L : List MsgP) : Prop where
  list : MsgL H w L
  row : Zo O w
  hd : ∀ j, j < L.length → Zo O (L.getD j (msg0, msgS0)).2.hd
  de : ∀ j, j < L.length → Zo O (L.getD j (msg0, msgS0)).2.de
  pa : ∀ j, j < L.length → Zo O (L.getD j (msg0, msgS0)).2.pa
  da : ∀ j, j < L.length → Zo O (L.getD j (msg0, msgS0)).2.da
section
variable {S : Nat → Prop} {H H' A B : Heap} {O O' OA : Ow} {cb fb bb sb N T K E R : Nat} {down : Bool} {c : CSt} {ts : TaskS}
theorem AnsRo.step {a : AnsA} {s : AnsS} (h : AnsRo H O a s) (st : Step S H O H' O') (h0 : ¬ S 0) : AnsRo H' O' a s := ⟨h.data.step st h0, h.heads.step st h0, h.list.step st h0⟩
theorem ansRoE (H : Heap) (O : Ow) (e : Int) : AnsRo H O (ansE e) ansS0 := ⟨RoF.nil H O, RoH.nil H O, RoF.nil H O⟩
theorem ansRo0 (H : Heap) (O : Ow) : AnsRo H O ans0 ansS0 := ⟨RoF.nil H O, RoH.nil H O, RoF.nil H O⟩
theorem AnsRo.inn {a : AnsA} {s : AnsS} (h : AnsRo H O a s) : AnsIn H a s := ⟨h.data.row, h.heads.row, h.list.row⟩
theorem MsgRo.nil (H : Heap) (O : Ow) : MsgRo H O Sl.nil [] := ⟨MsgL.nil H, fun hp => by simp [Sl.nil] at hp, fun j hj => absurd hj (by simp), fun j hj => absurd hj (by simp), fun j hj => absurd hj (by simp), fun j hj => absurd hj (by simp)⟩
theorem Zo.lt {s : Sl} (z : Zo O s) (st : Step S H O H' O') (hl : 0 < s.len → ∀ b, s.blk = some b → b < H.size) : Zo O' s := fun hp b hb => (st.agr b (hl hp b hb)).trans (z hp b hb)
theorem MsgRo.step {w : Sl} {L : List MsgP} (h : MsgRo H O w L) (st : Step S H O H' O') (h0 : ¬ S 0) : MsgRo H' O' w L := by
  have n0 : ∀ {x}, O x = 0 → ¬ S (O x) := fun e => by rw [e]; exact h0
  have hlt : 0 < w.len → ∀ b, w.blk = some b → b < H.size := h.list.row.lt msgPC_len (by omega)
  refine ⟨⟨h.list.row.chgN msgPC_len (by omega) st.chg fun hp b hb => n0 (h.row hp b hb), fun j hj => ?_⟩, h.row.lt st hlt, fun j hj => (h.hd j hj).lt st (h.list.each j hj).hd.lt, fun j hj => (h.de j hj).lt st (h.list.each j hj).de.lt, fun j hj => (h.pa j hj).lt st (h.list.each j hj).pa.lt, fun j hj => (h.da j hj).lt st (RowF.lt (h.list.each j hj).da)⟩
  obtain ⟨h1, h2, h3, h4⟩ := h.list.each j hj
  exact ⟨h1.chgN st.chg fun hp b hb => n0 (h.hd j hj hp b hb), h2.chgN st.chg fun hp b hb => ⟨h2.lt hp b hb, n0 (h.de j hj hp b hb)⟩, h3.chgN st.chg fun hp b hb => ⟨h3.lt hp b hb, n0 (h.pa j hj hp b hb)⟩, RowF.chgN h4 st.chg fun hp b hb => ⟨RowF.lt h4 hp b hb, n0 (h.da j hj hp b hb)⟩⟩
theorem CoIs.step (h : CoIs H O cb fb bb sb N T K E R down c ts) (st : Step S H O H' O') (h0 : ¬ S 0) (h1 : ¬ S 1) (h2 : ¬ S 2) (h3 : ¬ S 3) (h4 : ¬ S 4) : CoIs H' O' cb fb bb sb N T K E R down c ts := ⟨h.at_.step st h0 h1 h2 h3 h4, h.is, h.ok⟩
/-- What a walk comes to. -/
def OutR (H : Heap) (O : Ow) (cb fb bb sb N T K E R : Nat) (down : Bool) (p : COut) (r : Value) (H' : Heap) : Prop :=
  ∃ (sa : AnsS) (w : Sl) (L : List MsgP) (O' : Ow) (ts' : TaskS), r = .tuple #[ansV p.1 sa, w.val] ∧ AnsRo H' O' p.1 sa ∧ MsgRo H' O' w L ∧ L.map (·.1) = p.2.1 ∧ Step Co H O H' O' ∧ CoIs H' O' cb fb bb sb N T K E R down p.2.2 ts' ∧ (p.2.2.t.kind ≠ 0 → ts'.got.isSome = true)
theorem co_no {k : Nat} (h : 5 ≤ k) : ¬ Co k := fun c => by have := c.2; omega
theorem co0 : ¬ Co 0 := fun c => by have := c.1; omega
/-- A walk within a walk: its answer is laid into one's own block. -/
theorem OutR.close {p : COut} {r : Value} {b k9 : Nat} {cs : List Value} (st : Step (fun x => Co x ∨ x = k9) H O A OA) (hno : ∀ b, b < H.size → O b ≠ k9) (h : OutR A OA cb fb bb sb N T K E R down p r B) (hb : Blk A b 35 cs) (ho : OA b = k9) (hk : 5 ≤ k9) (hl : cs.length = 5) :
    ∃ (sa : AnsS) (w : Sl), r = .tuple #[ansV p.1 sa, w.val] ∧ Blk B b 35 cs ∧ Blk (hsets B b 0 (ansC p.1 sa)) b 35 (ansC p.1 sa) ∧ OutR H O cb fb bb sb N T K E R down p (.tuple #[ansV p.1 sa, w.val]) (hsets B b 0 (ansC p.1 sa)) := by
  obtain ⟨sa, w, L, OB, ts', rfl, ha, hm, hL, stB, hc, hg⟩ := h
  have kB := hb.step stB (by rw [ho]; exact co_no hk)
  have oB : OB b = k9 := stB.own hb.lt ho
  have h5 : puts cs 0 (ansC p.1 sa) = ansC p.1 sa := by
    match cs, hl with
    | [_, _, _, _, _], _ => rfl
  obtain ⟨b5, st5⟩ := cell_set (ansC p.1 sa) stB.wf kB oB h5
  refine ⟨sa, w, rfl, kB, b5, sa, w, L, OB, ts', rfl, ha.step st5 (by omega), hm.step st5 (by omega), hL, ?_, hc.step st5 (by omega) (by omega) (by omega) (by omega) (by omega), hg⟩
  exact Step.drop (S := fun x => Co x ∨ x = k9) ((st.trans (stB.mono fun x e => .inl e)).trans (st5.mono fun x e => .inr e)) fun b hb hS => hS.elim id fun e => absurd e (hno b hb)
theorem coEndR_ok {e : Int} (hw : WfO H O) (h : CoIs H O cb fb bb sb N T K E R down c ts) : CallsH Try.prog 33 [ptrD cb, IV e] H (OutR H O cb fb bb sb N T K E R down (cEnd e c)) :=
  (coEnd_ok e hw h.at_).mono fun r H' hr => by
    obtain ⟨rfl, O', st, h'⟩ := hr
    exact ⟨ansS0, Sl.nil, [], O', taskS0, rfl, ansRoE _ _ _, MsgRo.nil _ _, rfl, st, ⟨h', h.is, taskOk0 N⟩, fun hk => absurd rfl hk⟩
end
end Go.Proofs.Ytaikdcnifijcoaa
