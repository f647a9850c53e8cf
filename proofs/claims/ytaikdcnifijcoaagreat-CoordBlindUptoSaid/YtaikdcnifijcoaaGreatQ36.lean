/-
  The walks of package poly.
-/
import Derived.Test.YtaikdcnifijcoaaGreatQ34
import Derived.Test.YtaikdcnifijcoaaGreatQ35
import Derived.Test.YtaikdcnifijcoaaGreatQ05
import Derived.Test.YtaikdcnifijcoaaGreatQ14
import Derived.Test.YtaikdcnifijcoaaGreatQ13
set_option linter.unusedVariables false
set_option linter.unusedSimpArgs false
namespace Go.Vc
section
variable {C : Cx} {o : Oper} {L : Env} {H : Heap} {b : Nat} {l : KV}
theorem Ef.clearM [Tbl C.P] {t kt et : Nat} {x : Operand} {i : TI} {K : Value → Heap → Prop} (ho : o.op = .call { callee := .builtin .clear, args := #[x], argTypes := #[t] }) (hx : L.ev x = some (.map (some b))) (ht : ty C.P t = some i) (hi : i.desc = .map kt et) (hm : MapI H b l)
    (hk : ∀ H', MapI H' b [] → Chg (fun c => c = b) H H' → K (.tuple #[]) H') : Ef C o L H K :=
  Ef.of (by rw [ho]; rfl) fun a w ha hw => by
    have h1 := agr_of ha hx (by rw [ho]; simp [Op.operands, Call.operands])
    subst hw
    obtain ⟨es, clock, hb, hs, h3⟩ := hm.at_
    refine .inl ⟨.tuple #[], Go.ChangeMaps.setBlock w b (.map #[] clock), ?_, ⟨rfl, rfl, rfl⟩, hk _ ⟨⟨#[], clock, Go.ChangeMaps.heap_setBlock_same hb _, MapKept.stamped_empty _, rfl⟩, fun p hp => by cases hp⟩ ⟨by simp [Go.ChangeMaps.setBlock], fun i _ hi => Go.ChangeMaps.heap_setBlock_other hb _ (fun e => hi (by rw [e]))⟩⟩
    simp [execOp, ho, resolve, invoke, builtin, h1, Builtin.clear_, Sem.run_bind, ty.und ht, Result.andThen, hi, MapKept.run_getObj_map hb, MapKept.run_setObj_map (P := C.P) _ hb]
    rfl
end
section
variable {C : Cx} {ops : Array Oper} {l : List Oper} {L : Env} {ds : List Nat} {H : Heap} {Kk : Env → Heap → Prop} {o : Oper} {b : Nat} {m : KV}
theorem RegS.clearM [Tbl C.P] {t kt et : Nat} {x : Operand} {i : TI} (hm : MapI H b m) (kk : ∀ H', MapI H' b [] → Chg (fun c => c = b) H H' → RegS C ops l L ds H' Kk)
    (ho : o.op = .call { callee := .builtin .clear, args := #[x], argTypes := #[t] } := by rfl) (hx : L.ev x = some (.map (some b)) := by rfl) (ht : ty C.P t = some i := by rfl) (hi : i.desc = .map kt et := by rfl)
    (hds : o.dst = none := by rfl) (hg : gd ops o L = some true := by rfl) : RegS C ops (o :: l) L ds H Kk :=
  RegS.ef hg (by rw [hds]; rfl) (Ef.clearM ho hx ht hi hm fun H' h1 h2 => by rw [hds]; exact kk H' h1 h2)
end
end Go.Vc
namespace Go.Proofs.YtaikdcnifijcoaaGreat
open Go Go.Vc Go.Gf
section
variable {S : Nat → Prop} {H H' A B : Heap} {O O' OA : Ow} {cb fb bb sb N T K E R : Nat} {down : Bool} {c : CSt} {ts : TaskS}
/-- Those who have answered take part. -/
def dealT (T : Nat) (t : TaskA) : TaskA := { t with parts := keysC t.got, dealers := (keysC t.got).take (T + 1), phase := 4, got := [] }
def cDeal (T : Nat) (c : CSt) : COut := (ans0, askL (dealT T c.t) c.v (askWho (dealT T c.t)), { c with t := dealT T c.t })
theorem GotRow.order {b : Nat} {l : SV} {d : CV} (h : GotRow H O b l d) : sorted ((kvs l).map (·.1)) = keysC d := by rw [kvs_keys, h.keys]; rfl
theorem GotRow.len {b : Nat} {l : SV} {d : CV} (h : GotRow H O b l d) : (kvs l).length = d.length := by
  have := congrArg List.length h.keys
  simpa [kvs] using this
theorem coAnswered_ok (mb : Nat) (hw : WfO H O) (h : CoAt H O cb fb bb sb N T K E R down c.s c.t ts) (hg : ts.got = some mb) (hl : c.t.got.length ≤ 1000) :
    CallsH Tryz.prog 149 [ptrD cb] H fun r H' => ∃ w : Sl, r = w.val ∧ RowF IV 0 H' w (keysC c.t.got) ∧ Ext H H' ∧ ∀ b, w.blk = some b → H.size ≤ b := by
  obtain ⟨tp, td, tl, tq, tg⟩ := ts
  have hg : tg = some mb := hg
  subst hg
  have hb := h.blk
  obtain ⟨l, gr⟩ : ∃ l, GotRow H O mb l c.t.got := h.task.got
  have hlen := gr.len
  refine CallsH.enter h149 Tryz.func149 rfl rfl rfl (by decide) fun u => run ?_
  refine RegS.call (keys_ok mb H) ?_
  rintro _ H1 ⟨rfl, hc1, x1⟩
  refine run ?_
  refine RegS.call (sortedKeys_ok mb H.size (kvs l) H1 (gr.map.ext x1) hc1 (by omega)) ?_
  rintro _ H2 ⟨s, rfl, o2, x2⟩
  rw [gr.order] at o2
  have z1 := x1.size
  refine run ?_
  exact ret1 ⟨s, rfl, OwnR.rowF o2, x1.trans x2, fun b hb' => by have := (OwnR.blk_ge o2 hb').1; omega⟩
theorem CoAt.cleared {s : Slt} {t : TaskA} {ts : TaskS} {mb : Nat} (h : CoAt H O cb fb bb sb N T K E R down s t ts) (hg : ts.got = some mb) (ho : O mb = 4) (hm : MapI H' mb []) (st : Step (· = 4) H O H' O') : CoAt H' O' cb fb bb sb N T K E R down s { t with got := [] } ts := by
  have hlt : mb < H.size := by
    have := h.task.got
    rw [hg] at this
    obtain ⟨l, g⟩ := this
    exact g.map.lt
  obtain ⟨h1, h2, h3, h4, h5, h6⟩ := h
  refine ⟨h1.step st (by rw [h2]; decide), st.own h1.lt h2, isField_chg h3 st.chg (by rw [h4]; decide), st.own (hcell_lt (h3.exp 0 (by omega))) h4, h5.step st (by decide) (by decide) (by decide), h6.parts.step st (by decide), h6.dealers.step st (by decide), h6.list.step st (by decide), h6.queue.step st (by decide), ?_⟩
  rw [hg]
  exact ⟨[], hm, st.own hlt ho, rfl, fun i hi => absurd hi (by simp)⟩
set_option maxHeartbeats 8000000 in
theorem coDeal_ok (hn : N ≤ 255) (hT : T ≤ 255) (hw : WfO H O) (h : CoIs H O cb fb bb sb N T K E R down c ts) (hgs : ts.got.isSome = true) (hq4 : c.t.sort = 4 → ts.queue = Sl.nil) (hk : InN N (keysC c.t.got)) (hTl : T + 1 ≤ (keysC c.t.got).length) :
    CallsH Tryz.prog 77 [ptrD cb] H (OutR H O cb fb bb sb N T K E R down (cDeal T c)) := by
  obtain ⟨hat, his, hok⟩ := h
  obtain ⟨tp, td, tl, tq, tg⟩ := ts
  have hgs : tg.isSome = true := hgs
  obtain ⟨mb, rfl⟩ := Option.isSome_iff_exists.1 hgs
  have hkl : (keysC c.t.got).length = c.t.got.length := by simp [keysC, sorted_length]
  refine CallsH.enter h77 Tryz.func77 rfl rfl rfl (by decide) fun u => run ?_
  refine RegS.allocA fun H1 x1 z1 b1 => ?_
  have b1 : Blk H1 H.size 51 (ansC ans0 ansS0) := b1
  obtain ⟨k9, O1, hk9, hno, st1, ho⟩ := cell_new hw x1 z1
  have h1 := hat.step st1 id id id id id
  have hb1 := h1.blk
  have s1 : Step (fun x => Co x ∨ x = k9) H O H1 O1 := w0 st1
  refine run ?_
  refine RegS.call (coAnswered_ok (c := c) mb st1.wf h1 rfl (by have := hk.len; omega)) ?_
  rintro _ H2 ⟨w, rfl, hwr, x2, gw⟩
  have st2 : Step (fun _ => False) H1 O1 H2 O1 := x2.step st1.wf
  have h2 := h1.step st2 id id id id id
  have hb2 := h2.blk
  have kb2 := b1.ext x2
  have hw2 : RoF IV 0 H2 O1 w (keysC c.t.got) := RoF.new hwr st1.wf gw
  refine run ?_
  refine RegS.store (v := w.val) (Blk.wr hb2 (j := 14) (by simp)) ?_
  have b3 : Blk (hset H2 ⟨cb, 14, none⟩ w.val) cb 122 (coordC N T K E R fb bb { c.t with parts := keysC c.t.got } ⟨w, td, tl, tq, some mb⟩) := Blk.set (j := 14) (v := w.val) hb2
  have c3 : Chg (· = cb) H2 (hset H2 ⟨cb, 14, none⟩ w.val) := hset_chg H2 ⟨cb, 14, none⟩ w.val
  obtain ⟨h3, st3⟩ := h2.turn (t' := { c.t with parts := keysC c.t.got }) (ts' := ⟨w, td, tl, tq, some mb⟩) st2.wf c3 b3 (by
    have ht := h2.task
    exact ⟨hw2, ht.dealers, ht.list, ht.queue, ht.got⟩)
  have kb3 := kb2.step st3 (by omega)
  have hw3 := hw2.step st3 (by decide)
  generalize hset H2 ⟨cb, 14, none⟩ w.val = H3 at b3 c3 h3 st3 kb3 hw3 ⊢
  have hr3 := hw3.row
  have hwl := hr3.len
  have hwc := w.le
  have hcut : RowF IV 0 H3 (w.cut 0 (T + 1) w.cap) ((keysC c.t.got).take (T + 1)) := hr3.cut ⟨by omega, by omega, by omega⟩ (by omega)
  refine run ?_
  refine RegP.cut (s := w) 0 (T + 1) w.cap (.inl ⟨rfl, rfl⟩) (.inr ⟨_, _, rfl, rfl⟩) (.inl ⟨rfl, rfl⟩) ⟨by omega, by omega, by omega⟩ ?_
  refine run ?_
  refine RegP.call (cloneI_ok _ _ H3 hcut (by rw [List.length_take]; omega)) ?_
  rintro _ H4 ⟨w2, rfl, hw2', x4, g4⟩
  refine ⟨.inl x4, ?_⟩
  have st4 : Step (fun _ => False) H3 O1 H4 O1 := x4.step st3.wf
  have h4 := h3.step st4 id id id id id
  have hb4 := h4.blk
  have kb4 := kb3.ext x4
  have hw4 : RoF IV 0 H4 O1 w2 ((keysC c.t.got).take (T + 1)) := RoF.new hw2' st3.wf g4
  refine run ?_
  refine RegP.store (v := w2.val) (Blk.wr hb4 (j := 15) (by simp)) ?_ ?_
  · exact Proms.nil
  have b5 : Blk (hset H4 ⟨cb, 15, none⟩ w2.val) cb 122 (coordC N T K E R fb bb { c.t with parts := keysC c.t.got, dealers := (keysC c.t.got).take (T + 1) } ⟨w, w2, tl, tq, some mb⟩) := Blk.set (j := 15) (v := w2.val) hb4
  have c5 : Chg (· = cb) H4 (hset H4 ⟨cb, 15, none⟩ w2.val) := hset_chg H4 ⟨cb, 15, none⟩ w2.val
  obtain ⟨h5, st5⟩ := h4.turn (t' := { c.t with parts := keysC c.t.got, dealers := (keysC c.t.got).take (T + 1) }) (ts' := ⟨w, w2, tl, tq, some mb⟩) st4.wf c5 b5 (by
    have ht := h4.task
    exact ⟨ht.parts, hw4, ht.list, ht.queue, ht.got⟩)
  have kb5 := kb4.step st5 (by omega)
  generalize hset H4 ⟨cb, 15, none⟩ w2.val = H5 at b5 c5 h5 st5 kb5 ⊢
  refine run ?_
  refine RegS.store (v := IV 4) (Blk.wr b5 (j := 9) (by simp)) ?_
  have b6 : Blk (hset H5 ⟨cb, 9, none⟩ (IV 4)) cb 122 (coordC N T K E R fb bb { c.t with parts := keysC c.t.got, dealers := (keysC c.t.got).take (T + 1), phase := 4 } ⟨w, w2, tl, tq, some mb⟩) := Blk.set (j := 9) (v := IV 4) b5
  have c6 : Chg (· = cb) H5 (hset H5 ⟨cb, 9, none⟩ (IV 4)) := hset_chg H5 ⟨cb, 9, none⟩ (IV 4)
  obtain ⟨h6, st6⟩ := h5.turn (t' := { c.t with parts := keysC c.t.got, dealers := (keysC c.t.got).take (T + 1), phase := 4 }) (ts' := ⟨w, w2, tl, tq, some mb⟩) st5.wf c6 b6 (by
    have ht := h5.task
    exact ⟨ht.parts, ht.dealers, ht.list, ht.queue, ht.got⟩)
  have kb6 := kb5.step st6 (by omega)
  generalize hset H5 ⟨cb, 9, none⟩ (IV 4) = H6 at b6 c6 h6 st6 kb6 ⊢
  obtain ⟨l6, g6⟩ : ∃ l, GotRow H6 O1 mb l c.t.got := h6.task.got
  refine run ?_
  refine RegS.clearM g6.map fun H7 m7 c7 => ?_
  have st7 : Step (· = 4) H6 O1 H7 O1 := c7.step st6.wf fun x _ e => by subst e; exact g6.own
  have h7 : CoAt H7 O1 cb fb bb sb N T K E R down c.s (dealT T c.t) ⟨w, w2, tl, tq, some mb⟩ := h6.cleared rfl g6.own m7 st7
  have g7 : GotRow H7 O1 mb [] (dealT T c.t).got := ⟨m7, g6.own, rfl, fun i hi => absurd hi (by simp)⟩
  have kb7 := kb6.step st7 (by omega)
  have hwho : askWho (dealT T c.t) = (keysC c.t.got).take (T + 1) := if_pos rfl
  have hin : InN N ((keysC c.t.got).take (T + 1)) := ⟨by rw [List.length_take]; have := hk.len; omega, fun n hn' => hk.mem n (List.mem_of_mem_take hn')⟩
  refine run ?_
  refine RegS.call (coAsk_ok c.v mb [] hn st7.wf h7 his rfl g7 (by show _ ∧ (4 : Int) ≤ _; exact ⟨by show (-9223372036854775808 : Int) ≤ 4; omega, by omega⟩) (by have := hk.len; show (keysC c.t.got).length ≤ 1000; omega) (by have := hin.len; show ((keysC c.t.got).take (T + 1)).length ≤ 1000; omega) (by rw [hwho]; exact hin.mem)) ?_
  rintro _ H8 ⟨w', L, rfl, hL, eL, x8, gw', gm⟩
  have st8 : Step (fun _ => False) H7 O1 H8 O1 := x8.step st7.wf
  have kb8 := kb7.step st8 id
  have ro8 := msgRo_new st7.wf hL gw' gm
  refine run ?_
  refine RegS.storeA (us := ansC ans0 ansS0) kb8 ?_
  obtain ⟨b9, st9⟩ := cell_set (ansC ans0 ansS0) st8.wf kb8 ho rfl
  generalize hsets H8 H.size 0 (ansC ans0 ansS0) = H9 at b9 st9 ⊢
  have h9 := (h7.step st8 id id id id id).step st9 (by omega) (by omega) (by omega) (by omega) (by omega)
  have ro9 := ro8.step st9 (by omega)
  have w1 : ∀ {X Y : Heap} {P Q : Ow}, Step (· = 1) X P Y Q → Step (fun x => Co x ∨ x = k9) X P Y Q := fun h => h.mono fun x e => by subst e; exact .inl ⟨by omega, by omega⟩
  have sF := (((((((s1.trans (w0 st2)).trans (w1 st3)).trans (w0 st4)).trans (w1 st5)).trans (w1 st6)).trans (st7.mono fun x e => by subst e; exact .inl ⟨by omega, by omega⟩)).trans (w0 st8)).trans (st9.mono fun x e => .inr e)
  refine run ?_
  exact retcA (cs := ansC ans0 ansS0) b9 ⟨ansS0, w', L, O1, _, rfl, ansRo0 _ _, ro9, eL, Step.drop sF fun b hb hS => hS.elim id fun e => absurd e (hno b hb), ⟨h9, his, ⟨by show (0 : Int) ≤ 4 ∧ (4 : Int) ≤ 4; omega, hk, hin, hok.queue, fun p hp => (by cases hp), List.nodup_nil⟩⟩, fun _ => ⟨rfl, hq4⟩⟩
end
end Go.Proofs.YtaikdcnifijcoaaGreat
set_option linter.unusedVariables false
set_option linter.unusedSimpArgs false
namespace Go.Proofs.YtaikdcnifijcoaaGreat
open Go Go.Vc Go.Gf
theorem degree_ok (s : Sl) (l : List UInt8) (H : Heap) (hb : Bytes H s l) (hl : l.length ≤ 9223372036854775807) : CallsH Tryz.prog 253 [s.val] H fun v H' => v = .int .i64 ((deg1 l : Int) - 1) ∧ H = H' := by
  refine CallsH.enter h253 Tryz.func253 rfl rfl rfl (by decide) fun u => go ?_
  refine Wp.loop (ι := Nat) (fun n => [(0, s.val), (3, .int .i64 ((n : Int) - 1))]) (fun n A => n ≤ l.length ∧ degN l n = deg1 l ∧ H = A) (fun n => n) l.length ⟨rfl, rfl, trivial⟩ ⟨Nat.le_refl _, rfl, rfl⟩ ?_
  rintro n _ ⟨hn, hd, rfl⟩
  refine go ?_
  refine RegS.sp (fun h => ?_) (fun h => ?_)
  · obtain ⟨m, rfl⟩ : ∃ m, n = m + 1 := ⟨n - 1, by omega⟩
    have e : ((m + 1 : Nat) : Int) - 1 = (m : Int) := by omega
    rw [e]
    refine go ?_
    refine Wp.br (fun h' => ?_) (fun h' => ?_) <;> refine go ?_
    · refine roundQ_n m ⟨rfl, rfl, trivial⟩ ⟨by omega, ?_, rfl⟩ (by omega)
      rw [← hd, degN, if_pos h']
    · refine ret1 ⟨?_, rfl⟩
      rw [← hd, degN, if_neg (show ¬ l.getD m 0 = 0 from h')]; rw [e]
  · refine go ?_
    refine ret1 ⟨?_, rfl⟩
    have : n = 0 := by omega
    subst this
    rw [← hd, degN]
theorem trim_ok (s : Sl) (l : List UInt8) (base : Nat) (H : Heap) (hm : Mine H base s l) : CallsH Tryz.prog 231 [s.val] H fun v H' => ∃ s' : Sl, v = s'.val ∧ Mine H base s' (tl l) ∧ (∀ b, s'.blk = some b → s.blk = some b) ∧ H = H' := by
  have hb := hm.bytes
  have hcap := hm.cap
  have hlen := hb.len
  have hle := s.le
  have hd := deg1_le l
  refine CallsH.enter h231 Tryz.func231 rfl rfl rfl (by decide) fun u => go ?_
  refine RegS.call (degree_ok s l H hb (by omega)) ?_
  rintro _ _ ⟨rfl, rfl⟩
  refine go ?_
  have e : (deg1 l : Int) - 1 + ((1 : Nat) : Int) = (deg1 l : Int) := by omega
  rw [e]
  have hh : 0 ≤ deg1 l ∧ deg1 l ≤ s.cap ∧ s.cap ≤ s.cap := by omega
  refine RegS.cut 0 (deg1 l) s.cap (.inl ⟨rfl, rfl⟩) (.inr ⟨_, _, rfl, rfl⟩) (.inl ⟨rfl, rfl⟩) hh ?_
  refine go ?_
  have hm1 : Mine H base (s.cut 0 (deg1 l) s.cap) (tl l) := by
    have := hm.cut hh hd
    simpa [tl] using this
  refine RegS.call (clip_ok _ _ base H hm1) ?_
  rintro _ _ ⟨rfl, rfl⟩
  refine go ?_
  have hl1 := hm1.bytes.len
  rw [tl_length] at hl1
  have hc1 := Sl.cut_cap hh
  have hh2 : 0 ≤ (s.cut 0 (deg1 l) s.cap).len ∧ (s.cut 0 (deg1 l) s.cap).len ≤ (s.cut 0 (deg1 l) s.cap).len ∧ (s.cut 0 (deg1 l) s.cap).len ≤ (s.cut 0 (deg1 l) s.cap).cap := ⟨Nat.zero_le _, Nat.le_refl _, Sl.le _⟩
  have hm2 := hm1.cut hh2 (by rw [tl_length]; omega)
  refine ret1 ⟨_, rfl, ?_, fun b hb => Sl.cut_blk (Sl.cut_blk hb), rfl⟩
  have : (tl l).take (s.cut 0 (deg1 l) s.cap).len = tl l := List.take_of_length_le (by rw [tl_length]; omega)
  simpa [this] using hm2
theorem backward_ok (s : Sl) (H : Heap) : CallsH Tryz.prog 240 [s.val] H fun v H' => ∃ b, v = .func (.func 267) #[] #[.pointer (some ⟨b, 0, none⟩)] ∧ Box H' b 36 s.val ∧ Ext H H' ∧ H.size ≤ b := by
  refine CallsH.enter h240 Tryz.func240 rfl rfl rfl (by decide) fun u => go ?_
  refine RegS.box (fun H1 e1 z1 b1 => ?_)
  refine go ?_
  exact ret1 ⟨_, rfl, ⟨b1⟩, e1, Nat.le_refl _⟩
theorem backward1_iter (s : Sl) (l : List UInt8) (b : Nat) (hl : l.length ≤ 9223372036854775807) : Iter Tryz.prog 267 [.pointer (some ⟨b, 0, none⟩)] l.length (fun k _ vs => vs = [I64 (l.length - 1 - k), B8 (l.getD (l.length - 1 - k) 0)]) (fun H => Box H b 36 s.val ∧ Bytes H s l) := by
  intro y J Jx H hpre hext hextx hY h0
  obtain ⟨hbox, hbs⟩ := hpre _ _ h0
  refine CallsH.enter h267 Tryz.func267 rfl rfl rfl (by decide) fun u => go ?_
  refine Wp.loop (ι := Nat) (fun k => [(0, .func (.yield y) #[] #[]), (1, .pointer (some ⟨b, 0, none⟩)), (3, .int .i64 ((l.length : Int) - 1 - (k : Int)))]) (fun k A => k ≤ l.length ∧ J k A) (fun k => l.length - k) 0 ⟨rfl, rfl, ?_, trivial⟩ ⟨by omega, h0⟩ ?_
  · exact get_int rfl (by omega)
  rintro k A ⟨hk, hJ⟩
  obtain ⟨hbox, hbs⟩ := hpre _ _ hJ
  refine go ?_
  refine Wp.br (fun h => ?_) (fun h => ?_)
  · have e : ((l.length : Int) - 1 - (k : Int)) = ((l.length - 1 - k : Nat) : Int) := by omega
    rw [e]
    refine go ?_
    refine RegS.yieldC (hY k A _ (by omega) hJ rfl) ?_
    rintro v H2 ⟨hA, ⟨rfl, hJ'⟩ | ⟨rfl, hJ'⟩⟩ <;> refine go ?_
    · refine roundQ_n (k + 1) ⟨rfl, rfl, ?_, trivial⟩ ⟨by omega, hJ'⟩ (by omega)
      exact get_int rfl (by omega)
    · exact ret0 (.inr hJ')
  · refine go ?_
    refine ret0n (.inl ?_)
    have : k = l.length := by omega
    rw [← this]; exact hJ
theorem eval_ok (fb : Nat) (s : Sl) (l : List UInt8) (x : UInt8) (H : Heap) (hF : IsField H fb) (hs : Bytes H s l) (hl : l.length ≤ 9223372036854775807) : CallsH Tryz.prog 186 [fieldV fb, s.val, B8 x] H fun v H' => v = B8 (hor x l) ∧ Ext H H' := by
  refine CallsH.enter h186 Tryz.func186 rfl rfl rfl (by decide) fun u => go ?_
  refine RegS.box (fun H1 e1 z1 b1 => ?_)
  refine go ?_
  refine RegS.box (fun H2 e2 z2 b2 => ?_)
  refine go ?_
  refine RegS.alloc (fun H3 e3 z3 b3 => ?_)
  refine go ?_
  refine RegS.store (v := B8 0) (Box.wr ⟨b3⟩) ?_
  have b4 := Box.set (u := B8 0) ⟨b3⟩
  have x4 : Ext H (hset H3 ⟨H2.size, 0, none⟩ (B8 0)) := (e1.trans (e2.trans e3)).then (hset_chg _ _ _) fun b hb => by simp at hb; omega
  have c1 : Box (hset H3 ⟨H2.size, 0, none⟩ (B8 0)) H.size 98 (fieldV fb) := (Box.ext ⟨b1⟩ (e2.trans e3)).chg (hset_chg _ _ _) (by simp; omega)
  have c2 : Box (hset H3 ⟨H2.size, 0, none⟩ (B8 0)) H1.size 5 (B8 x) := (Box.ext ⟨b2⟩ e3).chg (hset_chg _ _ _) (by simp; omega)
  generalize hset H3 ⟨H2.size, 0, none⟩ (B8 0) = H4 at b4 x4 c1 c2
  refine go ?_
  refine RegS.call (backward_ok s H4) ?_
  rintro _ H5 ⟨bb, rfl, b5, x5, g5⟩
  refine go ?_
  have z4 : H2.size < H4.size := b4.lt
  refine Wp.rangeA (backward1_iter s l bb hl) (fun k => [(3, fieldV H.size), (5, fieldV H1.size), (7, fieldV H2.size), (9, B8 (l.getD (l.length - 1 - k) 0))])
    (fun k A => Ext H A ∧ Box A H.size 98 (fieldV fb) ∧ Box A H1.size 5 (B8 x) ∧ Box A H2.size 5 (B8 (hor x (l.drop (l.length - k)))) ∧ Box A bb 36 s.val) (fun _ _ => False) ?_ ?_ (fun _ _ _ _ h => h.elim) ?_ ?_ ?_ ?_ (fun _ _ _ _ h => h.elim)
  · rintro k A ⟨q, _, _, _, q'⟩
    exact ⟨q', hs.ext q⟩
  · rintro k A B S ⟨q1, q2, q3, q4, q5⟩ c hS
    have z5 := x5.size
    have y5 := b5.lt
    have := x4.size
    exact ⟨q1.then c fun b hb => by have := hS b hb; omega, q2.chg c fun h => by have := hS _ h; omega, q3.chg c fun h => by have := hS _ h; omega, q4.chg c fun h => by have := hS _ h; omega, q5.chg c fun h => by have := hS _ h; omega⟩
  · exact ⟨x4.trans x5, c1.ext x5, c2.ext x5, (by simpa [hor] using b4.ext x5), b5⟩
  · intro u l' k hk A
    refine go ?_
    exact ⟨rfl, rfl, rfl, rfl, rfl, rfl, rfl, trivial⟩
  · rintro u l' k A hk ⟨q1, q2, q3, q4, q5⟩
    have hFA := hF.ext q1
    refine go ?_
    refine RegS.call (mul_ok fb _ _ _ hFA) ?_
    rintro _ _ ⟨rfl, rfl⟩
    refine go ?_
    refine RegS.store q4.wr ?_
    refine go ?_
    have hc := hset_chg A ⟨H2.size, 0, none⟩ (B8 (gmul (hor x (l.drop (l.length - k))) x ^^^ l.getD (l.length - 1 - k) 0))
    have y5 := b5.lt
    refine bodyQ_n (hc.above fun b hb => by simp at hb; have := x5.size; omega) ⟨q1.then hc fun b hb => by simp at hb; omega, q2.chg hc (by simp; omega), q3.chg hc (by simp; omega), ?_, q5.chg hc (by simp; omega)⟩
    rw [hor_step hk]
    exact Box.set q4
  · rintro A D hD ⟨q1, q2, q3, q4, q5⟩ hd
    refine go ?_
    have hz := b5.lt
    refine ret1d hd ⟨?_, put_ext q1 (by have := x5.size; have := x4.size; omega)⟩
    simp
/-- What Div hands back. -/
def DivR (H : Heap) (p d : List UInt8) (v : Value) (H' : Heap) : Prop :=
  Ext H H' ∧ if deg1 d = 0 then v = .tuple #[Sl.nil.val, Sl.nil.val, .bool false]
  else ∃ s r : Sl, v = .tuple #[s.val, r.val, .bool true] ∧ Mine H' H.size s (tl (divL p d).1) ∧ Mine H' H.size r (tl (divL p d).2) ∧ (∀ b, s.blk = some b → r.blk ≠ some b)
theorem divP_ok (fb : Nat) (s r : Sl) (l m : List UInt8) (H : Heap) (hF : IsField H fb) (hs : Bytes H s l) (hr : Bytes H r m) (hl : l.length ≤ 140737488355328) (hm : m.length ≤ 140737488355328) : CallsH Tryz.prog 251 [fieldV fb, s.val, r.val] H (DivR H l m) := by
  refine CallsH.enter h251 Tryz.func251 rfl rfl rfl (by decide) fun u => go ?_
  refine RegS.call (degree_ok r m H hr (by omega)) ?_
  rintro _ _ ⟨rfl, rfl⟩
  refine go ?_
  have hdl := deg1_le m
  refine Wp.br (fun h => ?_) (fun h => ?_)
  · refine go ?_
    exact ret3 ⟨Ext.refl _, by rw [if_pos (by omega)]⟩
  obtain ⟨low, hlow⟩ : ∃ low, deg1 m = low + 1 := ⟨deg1 m - 1, by omega⟩
  have e : (deg1 m : Int) - 1 = (low : Int) := by omega
  rw [e]
  refine go ?_
  refine RegS.call (inv_ok fb _ _ hF) ?_
  rintro _ _ ⟨rfl, rfl⟩
  refine go ?_
  refine RegS.call (clone_ok s l _ hs hl) ?_
  rintro _ H1 ⟨t, rfl, ho, e1⟩
  refine go ?_
  have hs1 := hs.ext e1
  refine RegS.makeSlice (n := l.length) ?_ ?_ fun H2 o2 e2 z2 => ?_
  · omega
  · omega
  refine go ?_
  have hr2 : Mine H2 H.size t l := ho.mine.ext e2
  have hq2 : Mine H2 H1.size (Sl.fresh H1.size l.length) (List.replicate l.length 0) := by
    have : (List.replicate l.length (Value.int .u8 0)) = (List.replicate l.length (0 : UInt8)).map B8 := by simp [B8]
    rw [this] at o2
    exact OwnR.mine o2
  have hr2b := hr2.bytes
  refine RegS.call (degree_ok t l _ hr2b (by omega)) ?_
  rintro _ _ ⟨rfl, rfl⟩
  refine go ?_
  have e1' : deg1 m - 1 = low := by omega
  refine Wp.loop (ι := List UInt8 × List UInt8) (fun i => [(0, fieldV fb), (2, r.val), (6, (Sl.fresh H1.size l.length).val), (7, t.val), (9, I64 low), (10, B8 (ginv (m.getD low 0))), (12, .int .i64 ((deg1 i.1 : Int) - 1))])
    (fun i A => Mine A H.size t i.1 ∧ Mine A H1.size (Sl.fresh H1.size l.length) i.2 ∧ Ext H A ∧ i.1.length = l.length ∧ i.2.length = l.length ∧ ∃ n, deg1 i.1 ≤ n ∧ divF m (ginv (m.getD low 0)) n i.1 i.2 = divL l m) (fun i => deg1 i.1) (l, List.replicate l.length 0)
    ⟨rfl, rfl, rfl, rfl, rfl, rfl, rfl, trivial⟩ ⟨hr2, hq2, e1.trans e2, rfl, by simp, l.length, deg1_le l, by simp only [divL, e1']⟩ ?_
  rintro ⟨r', q'⟩ A ⟨hR, hQ, eA, hrl, hql, n, hn, hd⟩
  simp only at hR hQ hrl hql hn hd
  have hRb := hR.bytes
  have hQb := hQ.bytes
  have hrle := deg1_le r'
  have hFA := hF.ext eA
  have hrA := hr.ext eA
  have hne : ∀ b, t.blk = some b → b < H1.size := fun b hb => (ho.blk_ge hb).2
  refine go ?_
  refine Wp.br (fun h => ?_) (fun h => ?_)
  · have h : (low : Int) ≤ (deg1 r' : Int) - 1 := h
    obtain ⟨top, htop⟩ : ∃ top, deg1 r' = top + 1 := ⟨deg1 r' - 1, by omega⟩
    have hlt0 : low ≤ top := by omega
    have e2 : (deg1 r' : Int) - 1 = (top : Int) := by omega
    rw [e2]
    refine go ?_
    refine RegS.call (mul_ok fb _ _ _ hFA) ?_
    rintro _ _ ⟨rfl, rfl⟩
    refine go ?_
    refine RegS.store (hQ.wr (j := top - low) (by omega)) ?_
    obtain ⟨h1, h2⟩ := hQ.set (j := top - low) (by omega) (gmul (r'.getD top 0) (ginv (m.getD low 0)))
    have hR1 : Mine _ H.size t r' := hR.chg h2 fun b hb hb' => by
      have := hne b hb
      have := (hQ.blk b hb').1
      omega
    have eA1 := eA.then h2 fun b hb => by have := (hQ.blk b hb).1; have := e1.size; omega
    generalize hset A ((Sl.fresh H1.size l.length).cell (top - low)) (B8 (gmul (r'.getD top 0) (ginv (m.getD low 0)))) = A1 at h1 h2 hR1 eA1
    refine go ?_
    have hc : ∀ j, (convI gmul r' (top - low) (gmul (r'.getD top 0) (ginv (m.getD low 0))) m j).length = l.length := fun j => by rw [convI_length, hrl]
    refine Wp.loop (ι := Nat) (fun j => [(0, fieldV fb), (2, r.val), (6, (Sl.fresh H1.size l.length).val), (7, t.val), (9, I64 low), (10, B8 (ginv (m.getD low 0))), (12, I64 top), (13, B8 (gmul (r'.getD top 0) (ginv (m.getD low 0)))), (54, I64 (low + 1)), (55, I64 j)])
      (fun j A' => j ≤ low + 1 ∧ Mine A' H.size t (convI gmul r' (top - low) (gmul (r'.getD top 0) (ginv (m.getD low 0))) m j) ∧ Mine A' H1.size (Sl.fresh H1.size l.length) (q'.set (top - low) (gmul (r'.getD top 0) (ginv (m.getD low 0)))) ∧ Ext H A')
      (fun j => low + 1 - j) 0 ⟨rfl, rfl, rfl, rfl, rfl, rfl, rfl, rfl, rfl, rfl, trivial⟩ ⟨by omega, hR1, h1, eA1⟩ ?_
    rintro j A' ⟨hj, hR', hQ', eA'⟩
    have hRb' := hR'.bytes
    have hFA' := hF.ext eA'
    have hrA' := hr.ext eA'
    have hcj := hc j
    refine go ?_
    refine Wp.br (fun h' => ?_) (fun h' => ?_) <;> refine go ?_
    · refine RegP.call (mul_ok fb _ _ _ hFA') ?_
      rintro _ _ ⟨rfl, rfl⟩
      refine ⟨.inl (Ext.refl _), ?_⟩
      refine go ?_
      refine RegP.store (hR'.wr (j := top - low + j) (by omega)) ?_ ?_
      · exact Proms.nil
      refine go ?_
      obtain ⟨h3, h4⟩ := hR'.set (j := top - low + j) (by omega) ((convI gmul r' (top - low) (gmul (r'.getD top 0) (ginv (m.getD low 0))) m j).getD (top - low + j) 0 ^^^ gmul (gmul (r'.getD top 0) (ginv (m.getD low 0))) (m.getD j 0))
      refine roundQ_n (j + 1) ⟨rfl, rfl, rfl, rfl, rfl, rfl, rfl, rfl, rfl, rfl, trivial⟩ ⟨by omega, by rw [convI_succ]; exact h3, hQ'.chg h4 (fun b hb hb' => ?_), eA'.then h4 fun b hb => (hR'.blk b hb).1⟩ (by omega)
      have := hne b hb'
      have := (hQ'.blk b hb).1
      omega
    · have hj' : j = low + 1 := by omega
      subst hj'
      have hdr : divR m (ginv (m.getD low 0)) r' = convI gmul r' (top - low) (gmul (r'.getD top 0) (ginv (m.getD low 0))) m (low + 1) := by
        unfold divR; rw [htop, hlow]; simp
      have hdq : divQ m (ginv (m.getD low 0)) r' q' = q'.set (top - low) (gmul (r'.getD top 0) (ginv (m.getD low 0))) := by
        unfold divQ; rw [htop, hlow]; simp
      have hlt := divR_lt (d := m) (r := r') (by omega) (by omega)
      rw [e1', hdr] at hlt
      refine RegS.call (degree_ok t _ A' hRb' (by omega)) ?_
      rintro _ _ ⟨rfl, rfl⟩
      refine go ?_
      obtain ⟨n', rfl, hs'⟩ := divF_step (d := m) (n := n) (inv := ginv (m.getD low 0)) (r := r') (q := q') (by omega) (by omega) hn
      rw [hdr, hdq, hd] at hs'
      exact roundQ_n (convI gmul r' (top - low) (gmul (r'.getD top 0) (ginv (m.getD low 0))) m (low + 1), q'.set (top - low) (gmul (r'.getD top 0) (ginv (m.getD low 0)))) ⟨rfl, rfl, rfl, rfl, rfl, rfl, rfl, trivial⟩ ⟨hR', hQ', eA', hcj, by simpa using hql, n', Nat.le_of_lt_succ (Nat.lt_of_lt_of_le hlt hn), hs'.symm⟩ hlt
  · have h : ¬ (low : Int) ≤ (deg1 r' : Int) - 1 := h
    refine go ?_
    rw [divF_end (by omega)] at hd
    refine RegS.call (trim_ok _ _ _ _ hQ) ?_
    rintro _ _ ⟨q'', rfl, hQ'', bQ, rfl⟩
    refine go ?_
    refine RegS.call (trim_ok _ _ _ _ hR) ?_
    rintro _ _ ⟨r'', rfl, hR'', bR, rfl⟩
    refine go ?_
    refine ret3 ⟨eA, ?_⟩
    rw [if_neg (by omega)]
    refine ⟨q'', r'', rfl, ?_, ?_, fun b hb hb' => ?_⟩
    · rw [← hd]; exact hQ''.low (by have := e1.size; omega)
    · rw [← hd]; exact hR''
    · have := hne b (bR b hb')
      have := (hQ.blk b (bQ b hb)).1
      omega
end Go.Proofs.YtaikdcnifijcoaaGreat
