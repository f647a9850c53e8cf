/-
  The walks of package coord, where nobody has answered: what is given up, what is stale.
-/
import Derived.Test.YtaikdcnifijcoaaGreatVLaw21q
set_option linter.unusedVariables false
set_option linter.unusedSimpArgs false
namespace Go.Vc
theorem Rd.lenM {C : Cx} {o : Oper} {L : Env} {H : Heap} [Tbl C.P] {x : Operand} {t b kt et : Nat} {l : KV} {i : TI} (ho : o.op = .call { callee := .builtin .len, args := #[x], argTypes := #[t] }) (hx : L.ev x = some (.map (some b)))
    (ht : ty C.P t = some i) (hi : i.desc = .map kt et) (hm : MapI H b l) : Rd C o L H (.int .i64 (l.length : Int)) :=
  Rd.of (by rw [ho]; rfl) fun act w ha ex => by
    have h1 := agr_of ha hx (by rw [ho]; simp [Op.operands, Call.operands])
    obtain ⟨es, clock, hb, _, he⟩ := (hm.ext ex).at_
    have hz : es.size = l.length := by have := congrArg List.length he; simpa using this
    simp [execOp, ho, resolve, invoke, builtin, h1, Builtin.len_, Sem.run_bind, ty.und ht, Result.andThen, hi, goInt, Sem.run, MapKept.run_getObj_map hb, hz]
end Go.Vc
namespace Go.Proofs.YtaikdcnifijcoaaGreat
open Go Go.Vc Go.Gf
section
variable {S : Nat → Prop} {H H' A B : Heap} {O O' OA : Ow} {cb fb bb sb N T K E R : Nat} {down : Bool} {c : CSt} {ts : TaskS}
set_option maxHeartbeats 4000000 in
/-- What nobody has answered is given up. -/
theorem coGive0_ok (hn : N ≤ 255) (hT : T ≤ 255) (hK : K ≤ 255) (hE : E ≤ 255) (hT0 : 1 ≤ T) (hw : WfO H O) (h : CoIs H O cb fb bb sb N T K E R down c ts) (hd : (down || c.s.pw.gone) = false) (hk : c.t.kind ≠ 0) (hg : c.t.got = []) (hgs : ts.got.isSome = true) :
    CallsH Tryz.prog 23 [ptrD cb] H (OutR H O cb fb bb sb N T K E R down (cEnd 5 c)) := by
  obtain ⟨tp, td, tl, tq, tg⟩ := ts
  have hgs : tg.isSome = true := hgs
  obtain ⟨mb, rfl⟩ := Option.isSome_iff_exists.1 hgs
  refine CallsH.enter h23 Tryz.func23 rfl rfl rfl (by decide) fun u => run ?_
  refine RegS.allocA fun H1 x1 z1 b1 => ?_
  have b1 : Blk H1 H.size 51 (ansC ans0 ansS0) := b1
  obtain ⟨k9, O1, hk9, hno, st1, ho⟩ := cell_new hw x1 z1
  have h1 := h.step st1 id id id id id
  have hb1 := h1.at_.blk
  have s1 : Step (fun x => Co x ∨ x = k9) H O H1 O1 := w0 st1
  obtain ⟨l, gr⟩ : ∃ l, GotRow H1 O1 mb l c.t.got := h1.at_.task.got
  have hm1 := gr.map
  have hl0 : (kvs l).length = 0 := by
    have := congrArg List.length gr.keys
    rw [hg] at this
    simpa [kvs] using this
  refine run ?_
  refine RegS.call (coIdle_ok h1.at_) ?_
  rintro _ _ ⟨rfl, rfl⟩
  rw [show (down || c.s.pw.gone || dec (c.t.kind = 0)) = false by rw [hd, dec_neg hk]; rfl]
  refine run ?_
  refine RegS.q (h := Rd.lenM rfl rfl rfl rfl hm1) ?_
  rw [hl0]
  refine run ?_
  refine RegS.call (co_m_ok h1.at_ hT hK hE) ?_
  rintro _ _ ⟨rfl, rfl⟩
  by_cases g1 : c.t.phase = ((1 : Nat) : Int)
  · refine run ?_
    refine RegS.call (co_q_ok h1.at_ hT hK hE) ?_
    rintro _ _ ⟨rfl, rfl⟩
    have hlt : ((0 : Nat) : Int) < ((T + K + E + E : Nat) : Int) := by omega
    refine run ?_
    refine RegS.call (coEndR_ok (e := 5) st1.wf h1) ?_
    rintro r B hr
    obtain ⟨sa, w', rfl, kB, b4, hout⟩ := OutR.close s1 hno hr b1 ho hk9 rfl
    refine run ?_
    refine RegS.storeA (us := ansC (cEnd 5 c).1 sa) kB ?_
    generalize hsets B H.size 0 (ansC (cEnd 5 c).1 sa) = BB at b4 hout ⊢
    refine run ?_
    exact retcA b4 hout
  by_cases g2 : c.t.sort = ((2 : Nat) : Int)
  · refine run ?_
    refine RegS.call (co_q_ok h1.at_ hT hK hE) ?_
    rintro _ _ ⟨rfl, rfl⟩
    have hlt : ((0 : Nat) : Int) < ((T + K + E + E : Nat) : Int) := by omega
    refine run ?_
    refine RegS.call (coEndR_ok (e := 5) st1.wf h1) ?_
    rintro r B hr
    obtain ⟨sa, w', rfl, kB, b4, hout⟩ := OutR.close s1 hno hr b1 ho hk9 rfl
    refine run ?_
    refine RegS.storeA (us := ansC (cEnd 5 c).1 sa) kB ?_
    generalize hsets B H.size 0 (ansC (cEnd 5 c).1 sa) = BB at b4 hout ⊢
    refine run ?_
    exact retcA b4 hout
  have hlt : ((0 : Nat) : Int) < ((T + K + E : Nat) : Int) := by omega
  refine run ?_
  refine RegS.call (coEndR_ok (e := 5) st1.wf h1) ?_
  rintro r B hr
  obtain ⟨sa, w', rfl, kB, b4, hout⟩ := OutR.close s1 hno hr b1 ho hk9 rfl
  refine run ?_
  refine RegS.storeA (us := ansC (cEnd 5 c).1 sa) kB ?_
  generalize hsets B H.size 0 (ansC (cEnd 5 c).1 sa) = BB at b4 hout ⊢
  refine run ?_
  exact retcA b4 hout
set_option maxHeartbeats 4000000 in
/-- What is stale is not answered. -/
theorem coHandle0_ok (m : MsgA) (ms : MsgS) (hw : WfO H O) (h : CoIs H O cb fb bb sb N T K E R down c ts) (hs : (down || c.s.pw.gone || dec (c.t.kind = 0)) = true ∨ m.session ≠ c.t.session) (hgs : c.t.kind ≠ 0 → ts.got.isSome = true) :
    CallsH Tryz.prog 27 [ptrD cb, .agg (msgC m ms).toArray] H (OutR H O cb fb bb sb N T K E R down (ans0, [], c)) := by
  refine CallsH.enter h27 Tryz.func27 rfl rfl rfl (by decide) fun u => run ?_
  refine RegS.boxA fun H0 x0 z0 b0 => ?_
  have b0 : Blk H0 H.size 38 (msgC m ms) := b0
  have s0 : Step (fun _ => False) H O H0 O := x0.step hw
  refine run ?_
  refine RegS.allocA fun H1 x1 z1 b1 => ?_
  have b1 : Blk H1 H0.size 51 (ansC ans0 ansS0) := b1
  obtain ⟨k9, O1, hk9, hno0, st1, ho⟩ := cell_new s0.wf x1 z1
  have hno : ∀ b, b < H.size → O b ≠ k9 := fun b hb => hno0 b (by omega)
  have h1 := (h.step s0 id id id id id).step st1 id id id id id
  have s1 : Step (fun x => Co x ∨ x = k9) H O H1 O1 := (w0 s0).trans (w0 st1)
  have p1 := b0.ext x1
  have hb1 := h1.at_.blk
  have lt1 := b1.lt
  refine run ?_
  refine RegP.call (coIdle_ok h1.at_) ?_
  rintro _ _ ⟨rfl, rfl⟩
  refine ⟨.inl (Ext.refl _), ?_⟩
  cases hi : (down || c.s.pw.gone || dec (c.t.kind = 0)) with
  | true =>
    refine run ?_
    refine RegS.storeA (us := ansC ans0 ansS0) b1 ?_
    obtain ⟨b4, st4⟩ := cell_set (ansC ans0 ansS0) st1.wf b1 ho rfl
    generalize hsets H1 H0.size 0 (ansC ans0 ansS0) = H4 at b4 st4 ⊢
    have h4 := h1.step st4 (by omega) (by omega) (by omega) (by omega) (by omega)
    refine run ?_
    exact retcA (cs := ansC ans0 ansS0) b4 ⟨ansS0, Sl.nil, [], O1, ts, rfl, ansRo0 _ _, MsgRo.nil _ _, rfl, Step.drop (s1.trans (st4.mono fun x e => .inr e)) (fun b hb hS => hS.elim _root_.id fun e => absurd e (hno b hb)), h4, hgs⟩
  | false =>
    have hs : m.session ≠ c.t.session := hs.resolve_left (by rw [hi]; simp)
    by_cases hto : m.to ≠ -1
    · refine run ?_
      refine RegS.storeA (us := ansC ans0 ansS0) b1 ?_
      obtain ⟨b4, st4⟩ := cell_set (ansC ans0 ansS0) st1.wf b1 ho rfl
      generalize hsets H1 H0.size 0 (ansC ans0 ansS0) = H4 at b4 st4 ⊢
      have h4 := h1.step st4 (by omega) (by omega) (by omega) (by omega) (by omega)
      refine run ?_
      exact retcA (cs := ansC ans0 ansS0) b4 ⟨ansS0, Sl.nil, [], O1, ts, rfl, ansRo0 _ _, MsgRo.nil _ _, rfl, Step.drop (s1.trans (st4.mono fun x e => .inr e)) (fun b hb hS => hS.elim _root_.id fun e => absurd e (hno b hb)), h4, hgs⟩
    · refine run ?_
      refine RegS.storeA (us := ansC ans0 ansS0) b1 ?_
      obtain ⟨b4, st4⟩ := cell_set (ansC ans0 ansS0) st1.wf b1 ho rfl
      generalize hsets H1 H0.size 0 (ansC ans0 ansS0) = H4 at b4 st4 ⊢
      have h4 := h1.step st4 (by omega) (by omega) (by omega) (by omega) (by omega)
      refine run ?_
      exact retcA (cs := ansC ans0 ansS0) b4 ⟨ansS0, Sl.nil, [], O1, ts, rfl, ansRo0 _ _, MsgRo.nil _ _, rfl, Step.drop (s1.trans (st4.mono fun x e => .inr e)) (fun b hb hS => hS.elim _root_.id fun e => absurd e (hno b hb)), h4, hgs⟩
end
end Go.Proofs.YtaikdcnifijcoaaGreat
