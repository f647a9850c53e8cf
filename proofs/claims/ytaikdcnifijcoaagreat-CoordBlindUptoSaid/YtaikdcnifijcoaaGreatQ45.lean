/-
  The walks of coord.decide, coord.GiveUp and coord.Handle. Printed by tools/gen_co15.py.
-/
import Derived.Test.YtaikdcnifijcoaaGreatQ44
set_option linter.unusedVariables false
set_option linter.unusedSimpArgs false
namespace Go.Vc
theorem Rd.lenMap {C : Cx} {o : Oper} {L : Env} {H : Heap} [Tbl C.P] {x : Operand} {t b kt et : Nat} {l : KV} {i : TI} (ho : o.op = .call { callee := .builtin .len, args := #[x], argTypes := #[t] }) (hx : L.ev x = some (.map (some b)))
    (ht : ty C.P t = some i) (hi : i.desc = .map kt et) (hm : MapI H b l) : Rd C o L H (.int .i64 (l.length : Int)) :=
  Rd.of (by rw [ho]; rfl) fun act w ha ex => by
    have h1 := agr_of ha hx (by rw [ho]; simp [Op.operands, Call.operands])
    obtain ⟨es, clock, hb, _, he⟩ := (hm.ext ex).at_
    have hz : es.size = l.length := by have := congrArg List.length he; simpa using this
    simp [execOp, ho, resolve, invoke, builtin, h1, Builtin.len_, Sem.run_bind, ty.und ht, Result.andThen, hi, goInt, Sem.run, MapKept.run_getObj_map hb, hz]
end Go.Vc
namespace Go.Proofs.YtaikdcnifijcoaaGreat
open Go Go.Vc Go.Gf
/-- A change of the book: the state behind it, and what is told. -/
def cChg (down : Bool) (w : BookA × Nat) (c : CSt) : CSt := ⟨(bkChange down c.s w.1 w.2).1, bkV down c.s c.v w.1 w.2, c.t⟩
def cErr (down : Bool) (w : BookA × Nat) (c : CSt) : Nat := (bkChange down c.s w.1 w.2).2
noncomputable def cDecide (down : Bool) (N T K E : Nat) (c : CSt) : COut :=
  if c.t.phase = 1 then cEnd (cErr down (putA c.v c.t.head (keysC c.t.got)) c : Nat) (cChg down (putA c.v c.t.head (keysC c.t.got)) c) else
  if c.t.sort = 2 then cEnd (cErr down (refA c.v (keysC c.t.got)) c : Nat) (cChg down (refA c.v (keysC c.t.got)) c) else
  if c.t.sort = 4 then cJudge down N T K E c else
  if cErr down (recA N c.v c.t.target) c ≠ 0 ∨ c.t.kind ≠ 6 then cEnd (cErr down (recA N c.v c.t.target) c : Nat) (cChg down (recA N c.v c.t.target) c) else
  cOn down N (T + K + E) (cChg down (recA N c.v c.t.target) c)
def giveLeast (T K E : Nat) (t : TaskA) : Nat := if t.phase = 1 ∨ t.sort = 2 then T + K + E + E else T + K + E
noncomputable def cGive (down : Bool) (N T K E : Nat) (c : CSt) : COut :=
  if (down || c.s.pw.gone) = true ∨ c.t.kind = 0 then (ans0, [], c) else
  if c.t.got.length < giveLeast T K E c.t ∨ c.t.phase = 2 ∨ (c.t.phase = 4 ∧ c.t.sort = 3) then cEnd 5 c else
  if c.t.phase = 3 then cDeal T c else cDecide down N T K E c
section
variable {S : Nat → Prop} {H H' A B : Heap} {O O' OA : Ow} {cb fb bb sb N T K E R : Nat} {down : Bool} {c : CSt} {ts : TaskS}
theorem CoIs.change {A B : Heap} {OA OB : Ow} {w : BookA × Nat} (h : CoIs A OA cb fb bb sb N T K E R down c ts) (st : Step (· = 3) A OA B OB) (hk : BkAt B OB 2 3 bb sb N T K E R down (bkChange down c.s w.1 w.2).1) (hf : w.2 = 0 → BookFit N w.1) : CoIs B OB cb fb bb sb N T K E R down (cChg down w c) ts :=
  ⟨h.at_.ofBook st (by decide) (by decide) (by decide) hk, bk_is h.is hf, h.ok⟩
theorem w3 {X Y : Heap} {P Q : Ow} {k9 : Nat} (h : Step (· = 3) X P Y Q) : Step (fun x => Co x ∨ x = k9) X P Y Q := h.mono fun x e => by subst e; exact .inl ⟨by omega, by omega⟩
set_option maxHeartbeats 16000000 in
theorem coDecide_ok (hn : N ≤ 255) (hT0 : 1 ≤ T) (hT : T ≤ 255) (hK0 : 1 ≤ K) (hK : K ≤ 255) (hE : E ≤ 255) (hd : T + K ≤ 256) (hw : WfO H O) (h : CoIs H O cb fb bb sb N T K E R down c ts) (hgs : ts.got.isSome = true) (hq4 : c.t.sort = 4 → ts.queue = Sl.nil) (hri : Rises c.v.dir) (hk : InN N (keysC c.t.got)) :
    CallsH Tryz.prog 78 [ptrD cb] H (OutR H O cb fb bb sb N T K E R down (cDecide down N T K E c)) := by
  have hg0 := hgs
  obtain ⟨mb, hmb⟩ := Option.isSome_iff_exists.1 hgs
  have hkl : (keysC c.t.got).length = c.t.got.length := by simp [keysC, sorted_length]
  have hkn := hk.len
  refine CallsH.enter h78 Tryz.func78 rfl rfl rfl (by decide) fun u => run ?_
  refine RegS.allocA fun H1 x1 z1 b1 => ?_
  have b1 : Blk H1 H.size 51 (ansC ans0 ansS0) := b1
  obtain ⟨k9, O1, hk9, hno, st1, ho⟩ := cell_new hw x1 z1
  have h1 := h.step st1 id id id id id
  have hb1 := h1.at_.blk
  have s1 : Step (fun x => Co x ∨ x = k9) H O H1 O1 := w0 st1
  refine run ?_
  refine Wp.br (fun g1 => ?_) (fun g1 => ?_)
  · have g1 : c.t.phase = 1 := g1
    rw [cDecide, if_pos g1]
    refine run ?_
    refine RegP.call (coAnswered_ok (c := c) mb st1.wf h1.at_ hmb (by omega)) ?_
    rintro _ H2 ⟨w, rfl, hwr, x2, gw⟩
    refine ⟨.inl x2, ?_⟩
    have st2 : Step (fun _ => False) H1 O1 H2 O1 := x2.step st1.wf
    have h2 := h1.step st2 id id id id id
    have hb2 := h2.at_.blk
    have b2 := b1.ext x2
    have s2 := s1.trans (w0 st2)
    refine run ?_
    refine RegP.call (bput_ok c.v c.t.head w (keysC c.t.got) hn (by omega) st2.wf h2.at_.book h2.is hri hwr) ?_
    rintro _ H3 ⟨rfl, O3, st3, hk3⟩
    refine ⟨.inr proms2, ?_⟩
    have h3 := h2.change st3 hk3 fun e => putA_fit h2.is.fit e
    have s3 := s2.trans (w3 st3)
    have k3 := b2.step st3 (by omega)
    have ho3 := st3.own b2.lt ho
    refine run ?_
    refine RegP.call (coEndR_ok (c := cChg down (putA c.v c.t.head (keysC c.t.got)) c) (e := (cErr down (putA c.v c.t.head (keysC c.t.got)) c : Nat)) st3.wf h3) ?_
    rintro r B hr
    obtain ⟨sa, w', rfl, kB, b9, hout⟩ := OutR.close s3 hno hr k3 ho3 hk9 rfl
    refine ⟨.inr proms2, ?_⟩
    refine run ?_
    refine RegP.storeA (us := ansC (cEnd (cErr down (putA c.v c.t.head (keysC c.t.got)) c : Nat) (cChg down (putA c.v c.t.head (keysC c.t.got)) c)).1 sa) kB ?_ ?_
    · exact Proms.nil
    generalize hsets B H.size 0 (ansC (cEnd (cErr down (putA c.v c.t.head (keysC c.t.got)) c : Nat) (cChg down (putA c.v c.t.head (keysC c.t.got)) c)).1 sa) = BB at b9 hout ⊢
    refine run ?_
    exact retcA b9 hout
  have g1 : ¬ c.t.phase = 1 := g1
  rw [cDecide, if_neg g1]
  refine run ?_
  refine Wp.br (fun g2 => ?_) (fun g2 => ?_)
  · have g2 : c.t.sort = 2 := g2
    rw [if_pos g2]
    refine run ?_
    refine RegP.call (coAnswered_ok (c := c) mb st1.wf h1.at_ hmb (by omega)) ?_
    rintro _ H2 ⟨w, rfl, hwr, x2, gw⟩
    refine ⟨.inl x2, ?_⟩
    have st2 : Step (fun _ => False) H1 O1 H2 O1 := x2.step st1.wf
    have h2 := h1.step st2 id id id id id
    have hb2 := h2.at_.blk
    have b2 := b1.ext x2
    have s2 := s1.trans (w0 st2)
    refine run ?_
    refine RegP.call (brefresh_ok c.v w (keysC c.t.got) hn (by omega) st2.wf h2.at_.book h2.is hwr) ?_
    rintro _ H3 ⟨rfl, O3, st3, hk3⟩
    refine ⟨.inr proms2, ?_⟩
    have h3 := h2.change st3 hk3 fun e => refA_fit h2.is.fit e
    have s3 := s2.trans (w3 st3)
    have k3 := b2.step st3 (by omega)
    have ho3 := st3.own b2.lt ho
    refine run ?_
    refine RegP.call (coEndR_ok (c := cChg down (refA c.v (keysC c.t.got)) c) (e := (cErr down (refA c.v (keysC c.t.got)) c : Nat)) st3.wf h3) ?_
    rintro r B hr
    obtain ⟨sa, w', rfl, kB, b9, hout⟩ := OutR.close s3 hno hr k3 ho3 hk9 rfl
    refine ⟨.inr proms2, ?_⟩
    refine run ?_
    refine RegP.storeA (us := ansC (cEnd (cErr down (refA c.v (keysC c.t.got)) c : Nat) (cChg down (refA c.v (keysC c.t.got)) c)).1 sa) kB ?_ ?_
    · exact Proms.nil
    generalize hsets B H.size 0 (ansC (cEnd (cErr down (refA c.v (keysC c.t.got)) c : Nat) (cChg down (refA c.v (keysC c.t.got)) c)).1 sa) = BB at b9 hout ⊢
    refine run ?_
    exact retcA b9 hout
  have g2 : ¬ c.t.sort = 2 := g2
  rw [if_neg g2]
  refine run ?_
  refine Wp.br (fun g3 => ?_) (fun g3 => ?_)
  · have g3 : c.t.sort = 4 := g3
    rw [if_pos g3]
    refine run ?_
    refine RegS.call (coJudge_ok hn hT0 hT hK0 hK hE hd st1.wf h1 hgs (hq4 g3) hk) ?_
    rintro r B hr
    obtain ⟨sa, w', rfl, kB, b9, hout⟩ := OutR.close s1 hno hr b1 ho hk9 rfl
    refine run ?_
    refine RegS.storeA (us := ansC (cJudge down N T K E c).1 sa) kB ?_
    generalize hsets B H.size 0 (ansC (cJudge down N T K E c).1 sa) = BB at b9 hout ⊢
    refine run ?_
    exact retcA b9 hout
  have g3 : ¬ c.t.sort = 4 := g3
  rw [if_neg g3]
  refine run ?_
  refine RegP.call (brecover_ok c.v c.t.target hn st1.wf h1.at_.book h1.is) ?_
  rintro _ H3 ⟨rfl, O3, st3, hk3⟩
  refine ⟨.inr proms2, ?_⟩
  have h3 := h1.change st3 hk3 fun _ => recA_fit h1.is.fit
  have s3 := s1.trans (w3 st3)
  have k3 := b1.step st3 (by omega)
  have ho3 := st3.own b1.lt ho
  have hb3 := h3.at_.blk
  have hb3 : Blk H3 cb 122 (coordC N T K E R fb bb c.t ts) := hb3
  refine run ?_
  refine RegS.sp (fun g4 => ?_) (fun g4 => ?_) <;> refine run ?_
  · have g4 : cErr down (recA N c.v c.t.target) c ≠ 0 := fun e => by
      have g4 : ¬ (((bkChange down c.s (recA N c.v c.t.target).1 (recA N c.v c.t.target).2).2 : Nat) : Int) = ((0 : Nat) : Int) := g4
      exact g4 (by rw [show (bkChange down c.s (recA N c.v c.t.target).1 (recA N c.v c.t.target).2).2 = 0 from e])
    rw [if_pos (.inl g4)]
    refine RegS.call (coEndR_ok (c := cChg down (recA N c.v c.t.target) c) (e := (cErr down (recA N c.v c.t.target) c : Nat)) st3.wf h3) ?_
    rintro r B hr
    obtain ⟨sa, w', rfl, kB, b9, hout⟩ := OutR.close s3 hno hr k3 ho3 hk9 rfl
    refine run ?_
    refine RegS.storeA (us := ansC (cEnd (cErr down (recA N c.v c.t.target) c : Nat) (cChg down (recA N c.v c.t.target) c)).1 sa) kB ?_
    generalize hsets B H.size 0 (ansC (cEnd (cErr down (recA N c.v c.t.target) c : Nat) (cChg down (recA N c.v c.t.target) c)).1 sa) = BB at b9 hout ⊢
    refine run ?_
    exact retcA b9 hout
  have g4 : cErr down (recA N c.v c.t.target) c = 0 := by
    have g4 := Classical.not_not.1 g4
    have g4 : (((bkChange down c.s (recA N c.v c.t.target).1 (recA N c.v c.t.target).2).2 : Nat) : Int) = ((0 : Nat) : Int) := g4
    exact Int.ofNat.inj g4
  refine Wp.br (fun g5 => ?_) (fun g5 => ?_)
  · have g5 : c.t.kind ≠ 6 := g5
    rw [if_pos (.inr g5)]
    refine run ?_
    refine RegS.call (coEndR_ok (c := cChg down (recA N c.v c.t.target) c) (e := (cErr down (recA N c.v c.t.target) c : Nat)) st3.wf h3) ?_
    rintro r B hr
    obtain ⟨sa, w', rfl, kB, b9, hout⟩ := OutR.close s3 hno hr k3 ho3 hk9 rfl
    refine run ?_
    refine RegS.storeA (us := ansC (cEnd (cErr down (recA N c.v c.t.target) c : Nat) (cChg down (recA N c.v c.t.target) c)).1 sa) kB ?_
    generalize hsets B H.size 0 (ansC (cEnd (cErr down (recA N c.v c.t.target) c : Nat) (cChg down (recA N c.v c.t.target) c)).1 sa) = BB at b9 hout ⊢
    refine run ?_
    exact retcA b9 hout
  have g5 : ¬ c.t.kind ≠ 6 := g5
  rw [if_neg (fun k => k.elim (fun k => k g4) g5)]
  refine run ?_
  refine RegS.call (coOn_ok hn hT hK hE st3.wf h3) ?_
  rintro r B hr
  obtain ⟨sa, w', rfl, kB, b9, hout⟩ := OutR.close s3 hno hr k3 ho3 hk9 rfl
  refine run ?_
  refine RegS.storeA (us := ansC (cOn down N (T + K + E) (cChg down (recA N c.v c.t.target) c)).1 sa) kB ?_
  generalize hsets B H.size 0 (ansC (cOn down N (T + K + E) (cChg down (recA N c.v c.t.target) c)).1 sa) = BB at b9 hout ⊢
  refine run ?_
  exact retcA b9 hout
theorem ints_len : ∀ (N : Nat) (l : List Int), l.Nodup → (∀ n ∈ l, 0 ≤ n ∧ n < N) → l.length ≤ N
  | 0, [], _, _ => Nat.le_refl _
  | 0, a :: l, _, h => by have := h a (by simp); omega
  | N + 1, l, hd, h => by
    by_cases hm : (N : Int) ∈ l
    · have e := List.length_erase_of_mem hm
      have := ints_len N (l.erase (N : Int)) (hd.erase _) fun n hn => by
        have h1 := (List.Nodup.mem_erase_iff hd).1 hn
        have h2 := h n h1.2
        have h3 := h1.1
        omega
      omega
    · have := ints_len N l hd fun n hn => by
        have h2 := h n hn
        have h3 : n ≠ (N : Int) := fun e => hm (e ▸ hn)
        omega
      omega
theorem TaskOk.keysIn {t : TaskA} (h : TaskOk N t) : InN N (keysC t.got) := by
  have hm : ∀ n : Int, n ∈ t.got.map (fun x : Int × List UInt8 => x.1) → 0 ≤ n ∧ n < N := fun n hn => by
    obtain ⟨p, hp, rfl⟩ := List.mem_map.1 hn
    exact h.got p hp
  refine ⟨?_, fun n hn => hm n ((sorted_mem _ _).1 hn)⟩
  rw [keysC, sorted_length]
  exact ints_len N _ h.keys hm
theorem keysC_len (t : TaskA) : (keysC t.got).length = t.got.length := by simp [keysC, sorted_length]
/-- What a task keeps to. -/
structure TInv (N T : Nat) (t : TaskA) : Prop where
  target : t.sort = 3 → 0 ≤ t.target ∧ t.target < N
  parts : t.phase = 3 → T + 1 ≤ t.parts.length
set_option maxHeartbeats 16000000 in
theorem coGive_ok (hn : N ≤ 255) (hT0 : 1 ≤ T) (hT : T ≤ 255) (hK0 : 1 ≤ K) (hK : K ≤ 255) (hE : E ≤ 255) (hd : T + K ≤ 256) (hw : WfO H O) (h : CoIs H O cb fb bb sb N T K E R down c ts) (hgs : Rest c.t ts) (hri : Rises c.v.dir) :
    CallsH Tryz.prog 23 [ptrD cb] H (OutR H O cb fb bb sb N T K E R down (cGive down N T K E c)) := by
  have hk := h.ok.keysIn
  have hkl := keysC_len c.t
  have hkn := hk.len
  refine CallsH.enter h23 Tryz.func23 rfl rfl rfl (by decide) fun u => run ?_
  refine RegS.allocA fun H1 x1 z1 b1 => ?_
  have b1 : Blk H1 H.size 51 (ansC ans0 ansS0) := b1
  obtain ⟨k9, O1, hk9, hno, st1, ho⟩ := cell_new hw x1 z1
  have h1 := h.step st1 id id id id id
  have hb1 := h1.at_.blk
  have s1 : Step (fun x => Co x ∨ x = k9) H O H1 O1 := w0 st1
  refine run ?_
  refine RegS.call (coIdle_ok h1.at_) ?_
  rintro _ _ ⟨rfl, rfl⟩
  cases hi : (down || c.s.pw.gone || dec (c.t.kind = 0)) with
  | true =>
    rw [cGive, if_pos (idle_iff.1 hi)]
    refine run ?_
    refine RegS.storeA (us := ansC ans0 ansS0) b1 ?_
    obtain ⟨b9, st9⟩ := cell_set (ansC ans0 ansS0) st1.wf b1 ho rfl
    generalize hsets H1 H.size 0 (ansC ans0 ansS0) = H9 at b9 st9 ⊢
    have h9 := h1.step st9 (by omega) (by omega) (by omega) (by omega) (by omega)
    refine run ?_
    exact retcA (cs := ansC ans0 ansS0) b9 ⟨ansS0, Sl.nil, [], O1, ts, rfl, ansRo0 _ _, MsgRo.nil _ _, rfl, Step.drop (s1.trans (st9.mono fun x e => .inr e)) (fun b hb hS => hS.elim _root_.id fun e => absurd e (hno b hb)), h9, hgs⟩
  | false =>
    have hkd : c.t.kind ≠ 0 := fun e => by rw [dec_pos e] at hi; simp at hi
    obtain ⟨hg0, hq4⟩ := hgs hkd
    obtain ⟨mb, hmb⟩ := Option.isSome_iff_exists.1 hg0
    rw [cGive, if_neg (fun k => by have := idle_iff.2 k; rw [hi] at this; cases this)]
    have hgot := h1.at_.task.got
    rw [hmb] at hgot
    obtain ⟨l, gr⟩ := hgot
    have hm1 := gr.map
    have hl0 := gr.len
    have hb1 : Blk H1 cb 122 (coordC N T K E R fb bb c.t { ts with got := some mb }) := by rw [← hmb]; exact hb1
    refine run ?_
    refine RegS.q (h := Rd.lenMap rfl rfl rfl rfl hm1) ?_
    rw [hl0]
    refine run ?_
    refine RegS.call (co_m_ok h1.at_ hT hK hE) ?_
    rintro _ _ ⟨rfl, rfl⟩
    by_cases g1 : c.t.phase = ((1 : Nat) : Int)
    · have hle : giveLeast T K E c.t = T + K + E + E := if_pos (.inl g1)
      refine run ?_
      refine RegS.call (co_q_ok h1.at_ hT hK hE) ?_
      rintro _ _ ⟨rfl, rfl⟩
      by_cases g3 : (c.t.got.length : Int) < ((T + K + E + E : Nat) : Int)
      · rw [if_pos (.inl (by rw [hle]; omega))]
        refine run ?_
        refine RegS.call (coEndR_ok (e := 5) st1.wf h1) ?_
        rintro r B hr
        obtain ⟨sa, w', rfl, kB, b9, hout⟩ := OutR.close s1 hno hr b1 ho hk9 rfl
        refine run ?_
        refine RegS.storeA (us := ansC (cEnd 5 c).1 sa) kB ?_
        generalize hsets B H.size 0 (ansC (cEnd 5 c).1 sa) = BB at b9 hout ⊢
        refine run ?_
        exact retcA b9 hout
      rw [if_neg (fun k => k.elim (fun k => by rw [hle] at k; omega) fun k => k.elim (fun k => by omega) fun k => by omega), if_neg (show ¬ c.t.phase = 3 by omega)]
      refine run ?_
      refine RegS.call (coDecide_ok hn hT0 hT hK0 hK hE hd st1.wf h1 hg0 hq4 hri hk) ?_
      rintro r B hr
      obtain ⟨sa, w', rfl, kB, b9, hout⟩ := OutR.close s1 hno hr b1 ho hk9 rfl
      refine run ?_
      refine RegS.storeA (us := ansC (cDecide down N T K E c).1 sa) kB ?_
      generalize hsets B H.size 0 (ansC (cDecide down N T K E c).1 sa) = BB at b9 hout ⊢
      refine run ?_
      exact retcA b9 hout
    by_cases g2 : c.t.sort = ((2 : Nat) : Int)
    · have hle : giveLeast T K E c.t = T + K + E + E := if_pos (.inr g2)
      refine run ?_
      refine RegS.call (co_q_ok h1.at_ hT hK hE) ?_
      rintro _ _ ⟨rfl, rfl⟩
      by_cases g3 : (c.t.got.length : Int) < ((T + K + E + E : Nat) : Int)
      · rw [if_pos (.inl (by rw [hle]; omega))]
        refine run ?_
        refine RegS.call (coEndR_ok (e := 5) st1.wf h1) ?_
        rintro r B hr
        obtain ⟨sa, w', rfl, kB, b9, hout⟩ := OutR.close s1 hno hr b1 ho hk9 rfl
        refine run ?_
        refine RegS.storeA (us := ansC (cEnd 5 c).1 sa) kB ?_
        generalize hsets B H.size 0 (ansC (cEnd 5 c).1 sa) = BB at b9 hout ⊢
        refine run ?_
        exact retcA b9 hout
      by_cases g4 : c.t.phase = ((2 : Nat) : Int)
      · rw [if_pos (.inr (.inl g4))]
        refine run ?_
        refine RegS.call (coEndR_ok (e := 5) st1.wf h1) ?_
        rintro r B hr
        obtain ⟨sa, w', rfl, kB, b9, hout⟩ := OutR.close s1 hno hr b1 ho hk9 rfl
        refine run ?_
        refine RegS.storeA (us := ansC (cEnd 5 c).1 sa) kB ?_
        generalize hsets B H.size 0 (ansC (cEnd 5 c).1 sa) = BB at b9 hout ⊢
        refine run ?_
        exact retcA b9 hout
      by_cases g5 : c.t.phase = ((4 : Nat) : Int)
      · rw [if_neg (fun k => k.elim (fun k => by rw [hle] at k; omega) fun k => k.elim g4 fun k => by omega), if_neg (show ¬ c.t.phase = 3 by omega)]
        refine run ?_
        refine RegS.call (coDecide_ok hn hT0 hT hK0 hK hE hd st1.wf h1 hg0 hq4 hri hk) ?_
        rintro r B hr
        obtain ⟨sa, w', rfl, kB, b9, hout⟩ := OutR.close s1 hno hr b1 ho hk9 rfl
        refine run ?_
        refine RegS.storeA (us := ansC (cDecide down N T K E c).1 sa) kB ?_
        generalize hsets B H.size 0 (ansC (cDecide down N T K E c).1 sa) = BB at b9 hout ⊢
        refine run ?_
        exact retcA b9 hout
      rw [if_neg (fun k => k.elim (fun k => by rw [hle] at k; omega) fun k => k.elim g4 fun k => g5 k.1)]
      by_cases g7 : c.t.phase = ((3 : Nat) : Int)
      · rw [if_pos (show c.t.phase = 3 from g7)]
        refine run ?_
        refine RegS.call (coDeal_ok hn hT st1.wf h1 hg0 hq4 hk (by omega)) ?_
        rintro r B hr
        obtain ⟨sa, w', rfl, kB, b9, hout⟩ := OutR.close s1 hno hr b1 ho hk9 rfl
        refine run ?_
        refine RegS.storeA (us := ansC (cDeal T c).1 sa) kB ?_
        generalize hsets B H.size 0 (ansC (cDeal T c).1 sa) = BB at b9 hout ⊢
        refine run ?_
        exact retcA b9 hout
      rw [if_neg (show ¬ c.t.phase = 3 from g7)]
      refine run ?_
      refine RegS.call (coDecide_ok hn hT0 hT hK0 hK hE hd st1.wf h1 hg0 hq4 hri hk) ?_
      rintro r B hr
      obtain ⟨sa, w', rfl, kB, b9, hout⟩ := OutR.close s1 hno hr b1 ho hk9 rfl
      refine run ?_
      refine RegS.storeA (us := ansC (cDecide down N T K E c).1 sa) kB ?_
      generalize hsets B H.size 0 (ansC (cDecide down N T K E c).1 sa) = BB at b9 hout ⊢
      refine run ?_
      exact retcA b9 hout
    have hle : giveLeast T K E c.t = T + K + E := if_neg (fun k => k.elim g1 g2)
    by_cases g3 : (c.t.got.length : Int) < ((T + K + E : Nat) : Int)
    · rw [if_pos (.inl (by rw [hle]; omega))]
      refine run ?_
      refine RegS.call (coEndR_ok (e := 5) st1.wf h1) ?_
      rintro r B hr
      obtain ⟨sa, w', rfl, kB, b9, hout⟩ := OutR.close s1 hno hr b1 ho hk9 rfl
      refine run ?_
      refine RegS.storeA (us := ansC (cEnd 5 c).1 sa) kB ?_
      generalize hsets B H.size 0 (ansC (cEnd 5 c).1 sa) = BB at b9 hout ⊢
      refine run ?_
      exact retcA b9 hout
    by_cases g4 : c.t.phase = ((2 : Nat) : Int)
    · rw [if_pos (.inr (.inl g4))]
      refine run ?_
      refine RegS.call (coEndR_ok (e := 5) st1.wf h1) ?_
      rintro r B hr
      obtain ⟨sa, w', rfl, kB, b9, hout⟩ := OutR.close s1 hno hr b1 ho hk9 rfl
      refine run ?_
      refine RegS.storeA (us := ansC (cEnd 5 c).1 sa) kB ?_
      generalize hsets B H.size 0 (ansC (cEnd 5 c).1 sa) = BB at b9 hout ⊢
      refine run ?_
      exact retcA b9 hout
    by_cases g5 : c.t.phase = ((4 : Nat) : Int)
    · by_cases g6 : c.t.sort = ((3 : Nat) : Int)
      · rw [if_pos (.inr (.inr ⟨g5, g6⟩))]
        refine run ?_
        refine RegS.call (coEndR_ok (e := 5) st1.wf h1) ?_
        rintro r B hr
        obtain ⟨sa, w', rfl, kB, b9, hout⟩ := OutR.close s1 hno hr b1 ho hk9 rfl
        refine run ?_
        refine RegS.storeA (us := ansC (cEnd 5 c).1 sa) kB ?_
        generalize hsets B H.size 0 (ansC (cEnd 5 c).1 sa) = BB at b9 hout ⊢
        refine run ?_
        exact retcA b9 hout
      rw [if_neg (fun k => k.elim (fun k => by rw [hle] at k; omega) fun k => k.elim g4 fun k => g6 k.2), if_neg (show ¬ c.t.phase = 3 by omega)]
      refine run ?_
      refine RegS.call (coDecide_ok hn hT0 hT hK0 hK hE hd st1.wf h1 hg0 hq4 hri hk) ?_
      rintro r B hr
      obtain ⟨sa, w', rfl, kB, b9, hout⟩ := OutR.close s1 hno hr b1 ho hk9 rfl
      refine run ?_
      refine RegS.storeA (us := ansC (cDecide down N T K E c).1 sa) kB ?_
      generalize hsets B H.size 0 (ansC (cDecide down N T K E c).1 sa) = BB at b9 hout ⊢
      refine run ?_
      exact retcA b9 hout
    rw [if_neg (fun k => k.elim (fun k => by rw [hle] at k; omega) fun k => k.elim g4 fun k => g5 k.1)]
    by_cases g7 : c.t.phase = ((3 : Nat) : Int)
    · rw [if_pos (show c.t.phase = 3 from g7)]
      refine run ?_
      refine RegS.call (coDeal_ok hn hT st1.wf h1 hg0 hq4 hk (by omega)) ?_
      rintro r B hr
      obtain ⟨sa, w', rfl, kB, b9, hout⟩ := OutR.close s1 hno hr b1 ho hk9 rfl
      refine run ?_
      refine RegS.storeA (us := ansC (cDeal T c).1 sa) kB ?_
      generalize hsets B H.size 0 (ansC (cDeal T c).1 sa) = BB at b9 hout ⊢
      refine run ?_
      exact retcA b9 hout
    rw [if_neg (show ¬ c.t.phase = 3 from g7)]
    refine run ?_
    refine RegS.call (coDecide_ok hn hT0 hT hK0 hK hE hd st1.wf h1 hg0 hq4 hri hk) ?_
    rintro r B hr
    obtain ⟨sa, w', rfl, kB, b9, hout⟩ := OutR.close s1 hno hr b1 ho hk9 rfl
    refine run ?_
    refine RegS.storeA (us := ansC (cDecide down N T K E c).1 sa) kB ?_
    generalize hsets B H.size 0 (ansC (cDecide down N T K E c).1 sa) = BB at b9 hout ⊢
    refine run ?_
    exact retcA b9 hout
end
end Go.Proofs.YtaikdcnifijcoaaGreat
