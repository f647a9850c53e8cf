/-
  The laws of layer 21, walked: scripts; what is sent has no data.
-/
import Derived.Test.YtaikdcnifijcoaaGreatQ46
import Derived.Test.YtaikdcnifijcoaaGreatQ35
set_option linter.unusedVariables false
set_option linter.unusedSimpArgs false
namespace Go.Proofs.YtaikdcnifijcoaaGreat
open Go Go.Vc Go.Gf
section
variable {N T K E : Nat} {down : Bool} {c : CSt} {s : Slt}
theorem bkV_rises {v v' : BookA} {e : Nat} (h : Rises v.dir) (h' : Rises v'.dir) : Rises (bkV down s v v' e).dir := by
  unfold bkV
  split
  · exact h
  · split
    · exact h'
    · exact h
/-- A message of the coordinator's. -/
def Blind (N : Nat) (m : MsgA) : Prop := m.data = [] ∧ 0 ≤ m.to ∧ m.to < N
theorem blind_msg {t : TaskA} {v : BookA} {k n : Int} (h : 0 ≤ n ∧ n < N) : Blind N (msgOf t v k n) := by
  unfold msgOf
  split
  · exact ⟨rfl, h⟩
  split
  · exact ⟨rfl, h⟩
  split
  · exact ⟨rfl, h⟩
  · exact ⟨rfl, h⟩
theorem blind_ask {t : TaskA} {v : BookA} {l : List Int} (h : ∀ n ∈ l, 0 ≤ n ∧ n < N) : ∀ m ∈ askL t v l, Blind N m := fun m hm => by
  obtain ⟨n, hn, rfl⟩ := List.mem_map.1 hm
  exact blind_msg (h n (List.mem_filter.1 hn).1)
theorem ask_few {t : TaskA} {v : BookA} {l : List Int} (h : l.length ≤ N) : (askL t v l).length ≤ N := by
  unfold askL
  rw [List.length_map]
  exact Nat.le_trans (List.length_filter_le _ _) h
/-- What a walk comes to keeps to this. -/
structure Keep (N T : Nat) (p : COut) : Prop where
  rises : Rises p.2.2.v.dir
  task : p.2.2.t.kind ≠ 0 → TInv N T p.2.2.t
  sent : ∀ m ∈ p.2.1, Blind N m
  few : p.2.1.length ≤ N
structure CInv (N T : Nat) (c : CSt) : Prop where
  rises : Rises c.v.dir
  task : c.t.kind ≠ 0 → TInv N T c.t
theorem Keep.inv {p : COut} (h : Keep N T p) : CInv N T p.2.2 := ⟨h.rises, h.task⟩
theorem keep_end {e : Int} (h : Rises c.v.dir) : Keep N T (cEnd e c) := ⟨h, fun k => absurd rfl k, fun m hm => (by cases hm), Nat.zero_le _⟩
theorem keep_none {a : AnsA} (h : CInv N T c) : Keep N T (a, [], c) := ⟨h.rises, h.task, fun m hm => (by cases hm), Nat.zero_le _⟩
theorem nextA_rises (h : Rises c.v.dir) : Rises (nextA c.v).1.dir := by rw [(nextA_rows c.v).1]; exact h
theorem keep_begin {phase sort target : Int} {l : List Int} (h : Rises c.v.dir) (hl : InN N l) (hs : sort = 3 → 0 ≤ target ∧ target < N) (hp : phase = 3 → T + 1 ≤ l.length) (h4 : phase ≠ 4) : Keep N T (cBegin down phase sort target l c) := by
  unfold cBegin
  split
  · exact keep_end (c := ⟨_, _, _⟩) (bkV_rises h (nextA_rises h))
  · have e : askWho (cTask c phase sort target l) = l := if_neg h4
    refine ⟨nextA_rises h, fun _ => ⟨hs, hp⟩, blind_ask fun n hn => hl.mem n ?_, ask_few ?_⟩
    · rwa [e] at hn
    · rw [e]; exact hl.len
theorem keep_enough {least : Nat} {phase sort target : Int} {l : List Int} (h : Rises c.v.dir) (hl : InN N l) (hs : sort = 3 → 0 ≤ target ∧ target < N) (hp : T + 1 ≤ least) (h4 : phase ≠ 4) : Keep N T (cEnough down least phase sort target l c) := by
  unfold cEnough
  split
  · exact keep_end h
  · exact keep_begin h hl hs (fun _ => by omega) h4
theorem keep_recover {m : Nat} {target : Int} (h : Rises c.v.dir) (ht : 0 ≤ target ∧ target < N) (hm : T + 1 ≤ m) : Keep N T (cRecover down N m target c) := keep_enough h (upL_in _ _ _) (fun _ => ht) hm (by decide)
theorem keep_on {m : Nat} (h : Rises c.v.dir) (hq : InN N c.t.queue) (hm : T + 1 ≤ m) : Keep N T (cOn down N m c) := by
  unfold cOn
  cases e : c.t.queue with
  | nil => exact ⟨h, fun k => absurd rfl k, fun m hm => (by cases hm), Nat.zero_le _⟩
  | cons q r => exact keep_recover (c := { c with t := { c.t with queue := r } }) h (hq.mem q (by rw [e]; simp)) hm
theorem keep_deal (h : CInv N T c) (hk : InN N (keysC c.t.got)) : Keep N T (cDeal T c) := by
  have e : askWho (dealT T c.t) = (keysC c.t.got).take (T + 1) := if_pos rfl
  refine ⟨h.rises, fun k => ⟨(h.task k).target, fun e => absurd (show (4 : Int) = 3 from e) (by decide)⟩, blind_ask fun n hn => hk.mem n ?_, ask_few ?_⟩
  · rw [e] at hn
    exact List.mem_of_mem_take hn
  · rw [e, List.length_take]
    have := hk.len
    omega
theorem keep_judge (h : Rises c.v.dir) (hK : 1 ≤ K) : Keep N T (cJudge down N T K E c) := by
  unfold cJudge
  split
  · exact keep_end h
  · split
    · exact keep_end (c := ⟨_, _, _⟩) (bkV_rises h h)
    · exact keep_on (c := ⟨_, _, _⟩) h (downL_in _ _) (by omega)
theorem refA_rises {v : BookA} {l : List Int} (h : Rises v.dir) : Rises (refA v l).1.dir := by
  unfold refA
  split
  · exact h
  · exact h
theorem recA_rises {v : BookA} {n : Int} (h : Rises v.dir) : Rises (recA N v n).1.dir := by
  unfold recA
  split
  · exact h
  · exact h
theorem keep_decide (h : Rises c.v.dir) (hq : InN N c.t.queue) (hK : 1 ≤ K) : Keep N T (cDecide down N T K E c) := by
  unfold cDecide
  split
  · exact keep_end (c := cChg down _ c) (bkV_rises h (putA_rises h))
  split
  · exact keep_end (c := cChg down _ c) (bkV_rises h (refA_rises h))
  split
  · exact keep_judge h hK
  split
  · exact keep_end (c := cChg down _ c) (bkV_rises h (recA_rises h))
  · exact keep_on (c := cChg down _ c) (bkV_rises h (recA_rises h)) hq (by omega)
theorem keep_give (h : CInv N T c) (hok : TaskOk N c.t) (hK : 1 ≤ K) : Keep N T (cGive down N T K E c) := by
  unfold cGive
  split
  · exact keep_none h
  split
  · exact keep_end h.rises
  split
  · exact keep_deal h hok.keysIn
  · exact keep_decide h.rises hok.queue hK
theorem keep_next (h : CInv N T c) (hok : TaskOk N c.t) (hK : 1 ≤ K) : Keep N T (cNext down N T K E c) := by
  unfold cNext
  split
  · exact keep_none h
  split
  · exact keep_deal h hok.keysIn
  · exact keep_decide h.rises hok.queue hK
theorem keep_handle {m : MsgA} (h : CInv N T c) (hok : TaskOk N c.t) (hK : 1 ≤ K) : Keep N T (cHandle down N T K E m c) := by
  unfold cHandle
  split
  · exact keep_none h
  rename_i h1
  split
  · exact keep_end h.rises
  split
  · exact keep_none h
  have hk : c.t.kind ≠ 0 := fun e => h1 (.inr (.inl e))
  have htk : takesP c.t m.src := Classical.not_not.1 fun e => h1 (.inr (.inr (.inr (.inr e))))
  have hsr : 0 ≤ m.src ∧ m.src < N := by
    rcases htk with k | k
    · exact hok.parts.mem _ k
    · rw [k.2.2]; exact (h.task hk).target k.2.1
  exact keep_next (c := cGot m c) ⟨h.rises, fun k => ⟨(h.task k).target, (h.task k).parts⟩⟩ (hok.gotten hsr) hK
theorem keep_put {q : Nat} {x : StepA} (h : Rises c.v.dir) (hq : T + 1 ≤ q) : Keep N T (cPut down N q x c) := by
  unfold cPut
  split
  · exact keep_end h
  split
  · exact keep_end h
  split
  · exact keep_end h
  split
  · exact keep_end h
  exact keep_enough (c := ⟨_, _, _⟩) h (upL_in _ _ _) (fun e => absurd e (by decide)) hq (by decide)
theorem keep_start {x : StepA} (h : Rises c.v.dir) (hK : 1 ≤ K) : Keep N T (cStart down N T K E x c) := by
  unfold cStart
  split
  · exact keep_put h (by omega)
  split
  · cases cFind c.v.dir x.id with
    | none => exact keep_end h
    | some hd => exact keep_begin (c := cHead hd c) h (upL_in _ _ _) (fun e => absurd e (by decide)) (fun e => absurd e (by decide)) (by decide)
  split
  · split
    · exact keep_end h
    · exact keep_enough h (upL_in _ _ _) (fun e => absurd e (by decide)) (by omega) (by decide)
  split
  · exact keep_enough h (upL_in _ _ _) (fun e => absurd e (by decide)) (by omega) (by decide)
  split
  · exact keep_end h
  rename_i hx
  split
  · exact keep_end (c := cMark down [x.a] c) (bkV_rises h h)
  · exact keep_recover (c := cMark down [x.a] c) (bkV_rises h h) (by omega) (by omega)
theorem keep_call {x : StepA} (h : CInv N T c) (hK : 1 ≤ K) : Keep N T (cCall down N T K E x c) := by
  unfold cCall
  split
  · exact keep_none h
  split
  · exact keep_none h
  split
  · exact keep_none (c := ⟨_, _, _⟩) ⟨bkV_rises h.rises (delA_rises h.rises), h.task⟩
  split
  · exact keep_none h
  split
  · exact keep_none h
  split
  · exact keep_start (c := cNew x.kind c) h.rises hK
  · exact keep_none h
theorem tick_few (hok : TaskOk N c.t) : (cTick down c).length ≤ N := by
  unfold cTick
  split
  · exact Nat.zero_le _
  · exact ask_few (askWho_in hok).len
theorem keep_tick (hok : TaskOk N c.t) : ∀ m ∈ cTick down c, Blind N m := by
  unfold cTick
  split
  · intro m hm; cases hm
  · exact blind_ask (askWho_in hok).mem
end
end Go.Proofs.YtaikdcnifijcoaaGreat
set_option linter.unusedVariables false
set_option linter.unusedSimpArgs false
namespace Go.Vc
section
variable {C : Cx} {o : Oper} {L : Env} {H : Heap}
/-- A part of an element, loaded. -/
theorem Rd.loadPart [Tbl C.P] {β : Type} {n : Nat} {f : β → List Value} {d : β} {x : Operand} {t sz bt j off : Nat} {dd : TypeDesc} {z : Value} {s : Sl} {l : List β} (g : List Value) (ho : o.op = .load t x) (hx : L.ev x = some (.pointer (some (s.cell (j * n + off)))))
    (ht : ty C.P t = some ⟨dd, sz, bt, z⟩) (hd : isAggD dd = true) (hb : CRow n f d H s l) (hj : j < l.length) (hn : Nat.beq sz g.length = true) (hg : ∀ i v, g[i]? = some v → (f (l.getD j d))[off + i]? = some v) : Rd C o L H (.agg g.toArray) :=
  Rd.loadA ho hx ht hd hn fun i hi => by
    have hsz := Nat.eq_of_beq_eq_true hn
    have hv : g[i]? = some (g[i]'(by omega)) := List.getElem?_eq_getElem _
    refine ⟨_, hv, ?_⟩
    rw [Sl.cell_add]
    have := hb.cell j hj (off + i) _ (hg i _ hv)
    rwa [← Nat.add_assoc] at this
end
end Go.Vc
namespace Go.Proofs.YtaikdcnifijcoaaGreat
open Go Go.Vc Go.Gf
/-- A step of a script, and its slices. -/
structure OpA where
  kind : Int
  n : Int
  x : StepA
  m : MsgA
structure OpS where
  xd : Sl
  ms : MsgS
abbrev OpP := OpA × OpS
def opPC (p : OpP) : List Value := [IV p.1.kind, IV p.1.n] ++ (stepC p.1.x p.2.xd ++ msgC p.1.m p.2.ms)
def op0 : OpP := (⟨0, 0, ⟨0, 0, 0, 0, [], []⟩, msg0⟩, ⟨Sl.nil, msgS0⟩)
structure OpsL (H : Heap) (s : Sl) (l : List OpP) : Prop where
  row : CRow 24 opPC op0 H s l
  msg : ∀ j, j < l.length → MsgIn H (l.getD j op0).1.m (l.getD j op0).2.ms
  dat : ∀ j, j < l.length → Bytes H (l.getD j op0).2.xd (l.getD j op0).1.x.data
theorem OpsL.ext {H H' : Heap} {s : Sl} {l : List OpP} (h : OpsL H s l) (e : Ext H H') : OpsL H' s l := ⟨h.row.ext e, fun j hj => (h.msg j hj).ext e, fun j hj => Bytes.ext (h.dat j hj) e⟩
theorem op_msg (p : OpP) (i : Nat) (v : Value) (h : (msgC p.1.m p.2.ms)[i]? = some v) : (opPC p)[8 + i]? = some v := by
  unfold opPC
  rw [List.getElem?_append_right (by simp only [List.length_cons, List.length_nil]; omega), List.getElem?_append_right (by simp only [List.length_cons, List.length_nil]; omega)]
  rw [show 8 + i - [IV p.1.kind, IV p.1.n].length - (stepC p.1.x p.2.xd).length = i by simp only [List.length_cons, List.length_nil]; omega]
  exact h
theorem op_step (p : OpP) (i : Nat) (v : Value) (h : (stepC p.1.x p.2.xd)[i]? = some v) : (opPC p)[2 + i]? = some v := by
  unfold opPC
  have hi := (List.getElem?_eq_some_iff.1 h).1
  rw [List.getElem?_append_right (by simp only [List.length_cons, List.length_nil]; omega), show 2 + i - [IV p.1.kind, IV p.1.n].length = i by simp only [List.length_cons, List.length_nil]; omega, List.getElem?_append_left hi]
  exact h
def GoodOps (N T K E R : Int) (l : List OpP) : Prop := GoodP N T K E R ∧ N ≤ 8 ∧ l.length ≤ 100 ∧ ∀ j, j < l.length → msgBad (l.getD j op0).1.m = false
set_option maxHeartbeats 4000000 in
theorem good21_ok (N T K E R : Int) (s : Sl) (l : List OpP) (H : Heap) (ho : OpsL H s l) (hf : ∀ j, j < l.length → MsgFit (l.getD j op0).1.m) (hl : l.length ≤ 1048576) :
    CallsH Tryz.prog 29 [pmI N T K E R, s.val] H fun v H' => v = .bool (dec (GoodOps N T K E R l)) ∧ Ext H H' := by
  refine CallsH.enter h29 Tryz.func29 rfl rfl rfl (by decide) fun u => run ?_
  refine RegS.boxA fun H1 x1 z1 b1 => ?_
  refine run ?_
  refine RegS.call (good_ok N T K E R H1) ?_
  rintro _ H2 ⟨rfl, x2⟩
  have b2 := b1.ext x2
  have x02 := x1.trans x2
  have o2 := ho.ext x02
  have r2 := o2.row
  by_cases hg : GoodP N T K E R
  case neg =>
    rw [dec_neg hg]
    refine run ?_
    exact ret1 ⟨by rw [dec_neg fun k => hg k.1], x02⟩
  rw [dec_pos hg]
  have hNb := (hg.1 0 (by omega))
  refine run ?_
  by_cases h8 : N > ((8 : Nat) : Int)
  · refine run ?_
    exact ret1 ⟨by rw [dec_neg fun k => by have := k.2.1; omega], x02⟩
  by_cases h9 : (l.length : Int) > ((100 : Nat) : Int)
  · refine run ?_
    exact ret1 ⟨by rw [dec_neg fun k => by have := k.2.2.1; omega], x02⟩
  refine run ?_
  refine Wp.loop (ι := Nat) (fun i => [(1, s.val), (5, I64 i)]) (fun i A => i ≤ l.length ∧ (∀ j, j < i → msgBad (l.getD j op0).1.m = false) ∧ Ext H2 A) (fun i => l.length - i) 0 subs ⟨Nat.zero_le _, fun j hj => absurd hj (Nat.not_lt_zero j), Ext.refl _⟩ ?_
  rintro i A ⟨hi, hb, xA⟩
  have oA := o2.ext xA
  have rA := oA.row
  refine run ?_
  refine Wp.br (fun hlt => ?_) (fun hlt => ?_)
  · have hlt : (i : Int) < (l.length : Int) := hlt
    have hit : i < l.length := by omega
    refine run ?_
    refine RegS.q (h := Rd.loadPart (off := 8) (j := i) (msgC (l.getD i op0).1.m (l.getD i op0).2.ms) rfl rfl rfl rfl rA hit rfl (op_msg _)) ?_
    refine run ?_
    refine RegS.call (msg_ok _ _ A (oA.msg i hit) (hf i hit)) ?_
    rintro _ A2 ⟨Om, rfl, rm, y2⟩
    refine run ?_
    cases hbad : msgBad (l.getD i op0).1.m with
    | true =>
      refine run ?_
      exact ret1 ⟨by rw [dec_neg fun k => by have := k.2.2.2 i hit; rw [hbad] at this; cases this], (x02.trans xA).trans y2⟩
    | false =>
      refine run ?_
      exact roundQ_n (i + 1) subs ⟨by omega, fun j hj => by
        rcases Nat.lt_succ_iff_lt_or_eq.1 hj with h | rfl
        · exact hb j h
        · exact hbad, xA.trans y2⟩ (by omega)
  · have hlt : ¬ (i : Int) < (l.length : Int) := hlt
    have hie : i = l.length := by omega
    subst hie
    refine run ?_
    exact ret1 ⟨by rw [dec_pos (show GoodOps N T K E R l from ⟨hg, by omega, by omega, hb⟩)], x02.trans xA⟩
end Go.Proofs.YtaikdcnifijcoaaGreat
