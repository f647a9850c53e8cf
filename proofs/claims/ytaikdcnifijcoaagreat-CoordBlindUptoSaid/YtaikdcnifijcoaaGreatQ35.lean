/-
  The walks of a map's keys, in order.
-/
import Derived.Test.YtaikdcnifijcoaaGreatQ34
import Derived.Test.YtaikdcnifijcoaaGreatQ17
import Derived.Test.YtaikdcnifijcoaaGreatQ10
import Derived.Test.YtaikdcnifijcoaaGreatQ28
import Derived.Test.YtaikdcnifijcoaaGreatQ09
set_option linter.unusedVariables false
set_option linter.unusedSimpArgs false
namespace Go.Proofs.YtaikdcnifijcoaaGreat
open Go Go.Vc Go.Gf
def Fine21 (H : Heap) (v : Value) (H' : Heap) : Prop := v = .bool true ∧ Ext H H'
theorem wf0 (H : Heap) : WfO H (fun _ => 0) := ⟨fun _ _ => rfl⟩
theorem Step.ext0 {S : Nat → Prop} {H H' : Heap} {O' : Ow} (st : Step S H (fun _ => 0) H' O') (h0 : ¬ S 0) : Ext H H' := (Ext.refl H).then st.chg fun b hb => absurd hb h0
theorem book0_fit (N : Nat) : BookFit N (book0 N) := BkIs.fit (s := slt0 512) (.inl ⟨rfl, rfl⟩)
theorem fresh_save {N : Nat} {s : Slt} {v' : BookA} (hn : N ≤ 255) (hp : s.pw = pw0) (hr : s.room = 512) (hf : BookFit N v') : (bkChange false s v' 0).2 = 0 := by
  have hl := bookB_len hf hn
  unfold bkChange
  rw [if_neg (by rw [hp]; simp [pw0]), if_neg (by simp)]
  exact save_ok0 hp (by rw [hr]; unfold takesN; omega)
theorem begA_fresh {N : Nat} {s : Slt} {v : BookA} (hn : N ≤ 255) (hp : s.pw = pw0) (hr : s.room = 512) (hf : BookFit N v) (hs : v.session < 1073741824) : (begA false s v).2 = 0 := by
  have e : (nextA v).2 = 0 := by unfold nextA; rw [if_neg (by omega)]
  unfold begA
  rw [e]
  exact fresh_save hn hp hr (nextA_fit hf)
/-- A coordinator as it is made. -/
def c0 (N : Nat) : CSt := ⟨slt0 512, book0 N, task0⟩
def xRef : StepA := ⟨5, 0, 0, 0, [], []⟩
def xList : StepA := ⟨4, 0, 0, 0, [], []⟩
def tRef : TaskA := cTask (cNew 5 (c0 3)) 3 2 0 [0, 1, 2]
def cR : CSt := ⟨(begA false (slt0 512) (book0 3)).1, (nextA (book0 3)).1, tRef⟩
theorem call_ref : cCall false 3 1 1 0 xRef (c0 3) = (ans0, askL tRef (nextA (book0 3)).1 [0, 1, 2], cR) := by
  have e1 : cCall false 3 1 1 0 xRef (c0 3) = cBegin false 3 2 0 [0, 1, 2] (cNew 5 (c0 3)) := by rfl
  rw [e1, cBegin, if_neg (by
    have := begA_fresh (N := 3) (s := slt0 512) (v := book0 3) (by omega) rfl rfl (book0_fit 3) (by decide)
    show ¬ (begA false (slt0 512) (book0 3)).2 ≠ 0
    rw [this]; simp)]
  rfl
/-- A call that is under way. -/
theorem call_busy {N T K E : Nat} {x : StepA} {c : CSt} (hp : c.s.pw = pw0) (hk : c.t.kind ≠ 0) : cCall false N T K E x c = (ansE 4, [], c) := by
  rw [cCall, if_neg (by rw [hp]; simp [pw0]), if_pos hk]
/-- An answer, laid into a new block. -/
theorem ans_new {H H1 : Heap} {O : Ow} {cs : List Value} (a : AnsA) (sa : AnsS) (hw : WfO H O) (x : Ext H H1) (b : Blk H1 H.size 51 cs) (hl : cs.length = 5) : Blk (hsets H1 H.size 0 (ansC a sa)) H.size 51 (ansC a sa) ∧ Step (fun _ => False) H O (hsets H1 H.size 0 (ansC a sa)) O ∧ O H.size = 0 := by
  have h5 : puts cs 0 (ansC a sa) = ansC a sa := by
    match cs, hl with
    | [_, _, _, _, _], _ => rfl
  obtain ⟨b2, x2⟩ := Blk.lay (ansC a sa) b x (Nat.le_refl _) h5
  exact ⟨b2, x2.step hw, hw.new _ (Nat.le_refl _)⟩
set_option maxHeartbeats 8000000 in
theorem answers21_ok (H : Heap) : CallsH Tryz.prog 18 [] H (Fine21 H) := by
  refine CallsH.enter h18 Tryz.func18 rfl rfl rfl (by decide) fun u => run ?_
  refine RegS.call (conew_ok (N := 3) (T := 1) (K := 1) (E := 0) (R := 9) (wf0 H)) ?_
  rintro _ H1 ⟨cb, fb, bb, sb, O1, rfl, st1, hc1⟩
  have h1 : CoIs H1 O1 cb fb bb sb 3 1 1 0 9 false (c0 3) taskS0 := ⟨hc1, .inl ⟨rfl, rfl⟩, taskOk0 3⟩
  refine run ?_
  refine RegS.call (coCall_ok xRef Sl.nil (RowF.nil _) (fun hp => by simp [Sl.nil] at hp) (by omega) (by omega) (by omega) (by omega) st1.wf h1 (fun hk => absurd rfl hk) (fun hk => absurd hk (by decide))) ?_
  rintro r H2 hr
  rw [call_ref] at hr
  obtain ⟨sa, w, L, O2, ts2, rfl, ha, hm, hL, st2, h2, hgs⟩ := hr
  have h2 : CoIs H2 O2 cb fb bb sb 3 1 1 0 9 false cR ts2 := h2
  have hgs : Rest cR.t ts2 := hgs
  have s2 : Step Co H (fun _ => 0) H2 O2 := (st1.mono fun x e => e.elim).trans st2
  refine run ?_
  refine RegS.allocA fun A1 y1 v1 q1 => ?_
  refine run ?_
  refine RegS.storeA (us := ansC ans0 sa) q1 ?_
  obtain ⟨q3, st3, o3⟩ := ans_new ans0 sa st2.wf y1 q1 rfl
  generalize hsets A1 H2.size 0 (ansC ans0 sa) = H3 at q3 st3 ⊢
  have h3 := h2.step st3 id id id id id
  have m3 := hm.step st3 id
  refine run ?_
  refine RegS.call (coTask_ok h3.at_) ?_
  rintro _ _ ⟨rfl, rfl⟩
  refine run ?_
  refine RegS.call (coCall_ok xList Sl.nil (RowF.nil _) (fun hp => by simp [Sl.nil] at hp) (by omega) (by omega) (by omega) (by omega) st3.wf h3 hgs (fun hk => absurd hk (by decide))) ?_
  rintro r H4 hr
  rw [call_busy (c := cR) (bk_pw rfl) (show tRef.kind ≠ 0 by decide)] at hr
  obtain ⟨sb, w4, L4, O4, ts4, rfl, ha4, hm4, hL4, st4, h4, hgs4⟩ := hr
  have q4 := q3.step st4 (by rw [o3]; exact co0)
  have m4 := m3.step st4 co0
  refine run ?_
  refine RegS.allocA fun A5 y5 v5 q5 => ?_
  refine run ?_
  refine RegS.storeA (us := ansC (ansE 4) sb) q5 ?_
  obtain ⟨q6, st6, o6⟩ := ans_new (ansE 4) sb st4.wf y5 q5 rfl
  generalize hsets A5 H4.size 0 (ansC (ansE 4) sb) = H6 at q6 st6 ⊢
  have q7 := q4.step st6 id
  have m6 := m4.step st6 id
  have hrow := m6.list.row
  have hlen : L.length = 3 := by
    have := congrArg List.length hL
    rw [List.length_map] at this
    rw [this]; rfl
  have hk2 : (L.getD 2 (msg0, msgS0)).1.kind = 5 := by
    have e : (L.map (·.1)).getD 2 msg0 = (L.getD 2 (msg0, msgS0)).1 := by
      rw [List.getD_eq_getElem?_getD, List.getElem?_map, List.getD_eq_getElem?_getD]
      cases L[2]? <;> rfl
    rw [← e, hL]; rfl
  have sF : Step Co H (fun _ => 0) H6 O4 := (((s2.trans (st3.mono fun x e => e.elim)).trans st4).trans (st6.mono fun x e => e.elim))
  refine run ?_
  refine RegS.sp (fun _ => ?_) (fun h => absurd rfl h)
  refine run ?_
  repeat (refine RegS.sp (fun _ => ?_) (fun h => absurd rfl h); refine run ?_)
  exact ret1 ⟨rfl, Step.ext0 sF co0⟩
end Go.Proofs.YtaikdcnifijcoaaGreat
set_option linter.unusedVariables false
set_option linter.unusedSimpArgs false
set_option linter.unusedVariables false
set_option linter.unusedSimpArgs false
namespace Go.Proofs.YtaikdcnifijcoaaGreat
open Go Go.Vc Go.Gf
theorem goodP_nat {N T K E R : Int} (hg : GoodP N T K E R) : ∃ n t k e r : Nat, N = n ∧ T = t ∧ K = k ∧ E = e ∧ R = r ∧ n ≤ 255 ∧ 1 ≤ t ∧ t ≤ 255 ∧ k ≤ 255 ∧ e ≤ 255 := by
  obtain ⟨g1, g2, g3, g4, g5, g6, g7⟩ := hg
  have q0 := g1 0 (by omega)
  have q1 := g1 1 (by omega)
  have q2 := g1 2 (by omega)
  have q3' := g1 3 (by omega)
  simp only [List.getD_cons_zero, List.getD_cons_succ] at q0 q1 q2 q3'
  obtain ⟨n, rfl⟩ := Int.eq_ofNat_of_zero_le q0.1
  obtain ⟨t, rfl⟩ := Int.eq_ofNat_of_zero_le q1.1
  obtain ⟨k, rfl⟩ := Int.eq_ofNat_of_zero_le q2.1
  obtain ⟨e, rfl⟩ := Int.eq_ofNat_of_zero_le q3'.1
  obtain ⟨r, rfl⟩ := Int.eq_ofNat_of_zero_le (show 0 ≤ R by omega)
  exact ⟨n, t, k, e, r, rfl, rfl, rfl, rfl, rfl, by omega, by omega, by omega, by omega, by omega⟩
theorem out21x {H A : Heap} (x : Ext H A) : CallsH Tryz.prog 18 [] A fun v H' => v = .bool true ∧ Ext H H' :=
  (answers21_ok A).mono fun v H' h => ⟨h.1, x.trans h.2⟩
/-- What was there ahead of a coordinator is not its struct. -/
theorem not_co {H A : Heap} {OA : Ow} {cb : Nat} {S : Nat → Prop} (st : Step S H (fun _ => 0) A OA) (ho : OA cb = 1) {s : Sl} {l : List UInt8} (hx : Bytes H s l) : 0 < s.len → ∀ b, s.blk = some b → b ≠ cb := fun hp b hb e => by
  subst e
  have := st.agr b (RowF.lt hx hp b hb)
  rw [ho] at this
  cases this
end Go.Proofs.YtaikdcnifijcoaaGreat
set_option linter.unusedVariables false
set_option linter.unusedSimpArgs false
namespace Go.Proofs.YtaikdcnifijcoaaGreat
open Go Go.Vc
theorem keys_ok (b : Nat) (H : Heap) : CallsH Tryz.prog 117 [.map (some b)] H fun v H' => v = .func (.func 180) #[] #[.pointer (some ⟨H.size, 0, none⟩)] ∧ Box H' H.size 100 (.map (some b)) ∧ Ext H H' := by
  refine CallsH.enter h117 Tryz.func117 rfl rfl rfl (by decide) fun u => go ?_
  refine RegS.box (fun H1 e1 z1 b1 => ?_)
  have c1 : Box H1 H.size 100 (.map (some b)) := ⟨b1⟩
  refine go ?_
  exact ret1 ⟨rfl, c1, e1⟩
def keyStep (todo : KV) (vs : List Value) (todo' : KV) : Prop := ∃ p ∈ todo, vs = [IK p.1] ∧ todo' = todo.filter fun q => q.1 ≠ p.1
theorem keys_iter (b c : Nat) (l : KV) (ob : Obj) (hob : ∀ A : Heap, A[b]? = some ob → MapI A b l) :
    IterG Tryz.prog 180 [.pointer (some ⟨c, 0, none⟩)] l keyStep (fun t => t = []) (fun A => Box A c 100 (.map (some b)) ∧ A[b]? = some ob) := by
  intro y J Jx H hpre hJ hJx hY h0
  obtain ⟨p1, p2⟩ := hpre _ _ h0
  refine CallsH.enter h180 Tryz.func180 rfl rfl rfl (by decide) fun u => go ?_
  refine RegS.rangeMap (hob _ p2) fun H1 m1 x1 z1 => ?_
  have h1 := hJ _ _ _ h0 (.ext x1)
  refine go ?_
  refine Wp.loop (ι := KV) (fun t => [(0, .func (.yield y) #[] #[]), (5, .pointer (some ⟨H.size, 0, none⟩))]) (fun t A => J t A ∧ ∃ cur, MIter A H.size b l t cur) (fun t => t.length) l subs ⟨h1, none, m1⟩ ?_
  rintro t A ⟨hJA, cur, mA⟩
  refine go ?_
  refine RegS.nextMap mA (fun h => ?_) fun p H2 hp m2 k2 => ?_ <;> refine go ?_
  · exact ret0n (.inl ⟨t, h, hJA⟩)
  have hJ2 := hJ _ _ _ hJA k2
  refine RegS.entryMap m2 ?_
  refine go ?_
  refine RegS.yieldC (hY t _ H2 _ ⟨p, hp, rfl, rfl⟩ hJ2) ?_
  rintro v H3 ⟨hc, ⟨rfl, hJ3⟩ | ⟨rfl, hJ3⟩⟩ <;> refine go ?_
  · have hb2 := (hpre _ _ hJ2).2
    have hb3 := (hpre _ _ hJ3).2
    obtain ⟨ob', ho, hn⟩ := m2.obj
    have m3 := m2.get (hb3.trans hb2.symm) ((hc.get _ _ (Nat.le_refl _) ho hn).trans ho.symm)
    refine roundQ_n (t.filter fun q => q.1 ≠ p.1) subs ⟨hJ3, _, m3⟩ ?_
    have hlt : (t.filter fun q => decide (q.1 ≠ p.1)).length < t.length := by
      refine Nat.lt_of_le_of_ne (List.length_filter_le _ _) fun e => ?_
      have := List.length_filter_eq_length_iff.1 e p hp
      simp at this
    exact hlt
  · exact ret0 (.inr hJ3)
theorem OwnR.calm {A D : Heap} {B base : Nat} {e : TypeId} {size : Nat} {s : Sl} {xs : List Value} (h : OwnR A base e size s xs) (c : Chg (fun b => s.blk = some b) A D) : CalmH B A D :=
  c.calm fun b hs _ o ho => by
    rcases h.2 with h2 | ⟨g, cur, ha, hg, hh, _⟩
    · simp [Sl.blk, h2] at hs
    · simp [Sl.blk, ha] at hs
      subst hs
      rw [hh] at ho
      cases ho
      exact ⟨_, _, _, rfl⟩
theorem perm_step {ks : List Int} {t : KV} {p : Int × Value} {all : List Int} (h : (ks ++ t.map (·.1)).Perm all) (hall : all.Nodup) (hp : p ∈ t) : ((ks ++ [p.1]) ++ (t.filter fun q => q.1 ≠ p.1).map (·.1)).Perm all := by
  refine List.Perm.trans ?_ h
  rw [List.append_assoc]
  refine List.Perm.append_left ks ?_
  have hnd : (t.map (·.1)).Nodup := ((List.nodup_append.1 (h.nodup_iff.2 hall)).2.1)
  clear h
  induction t with
  | nil => cases hp
  | cons a r ih =>
    simp only [List.map_cons, List.nodup_cons] at hnd
    rcases List.mem_cons.1 hp with rfl | hp'
    · have e : ((p :: r).filter fun q => decide (q.1 ≠ p.1)) = r := by
        rw [List.filter_cons_of_neg (by simp)]
        refine List.filter_eq_self.2 fun q hq => ?_
        have : q.1 ≠ p.1 := fun e => hnd.1 (e ▸ List.mem_map.2 ⟨q, hq, rfl⟩)
        simpa using this
      rw [e]
      simp
    · have hne : a.1 ≠ p.1 := fun e => hnd.1 (e ▸ List.mem_map.2 ⟨p, hp', rfl⟩)
      rw [List.filter_cons_of_pos (by simpa using hne)]
      refine List.Perm.trans ?_ (List.Perm.cons a.1 (ih hp' hnd.2))
      simp only [List.map_cons, List.singleton_append]
      exact List.Perm.swap _ _ _
theorem appendSeq_ok (b c : Nat) (l : KV) (H : Heap) (hm : MapI H b l) (hc : Box H c 100 (.map (some b))) (hl : l.length ≤ 1000000) :
    CallsH Tryz.prog 234 [Sl.nil.val, .func (.func 180) #[] #[.pointer (some ⟨c, 0, none⟩)]] H fun v H' => ∃ (s : Sl) (ks : List Int), v = s.val ∧ OwnF IV H' H.size 3 s ks ∧ ks.Perm (l.map (·.1)) ∧ Ext H H' := by
  refine CallsH.enter h234 Tryz.func234 rfl rfl rfl (by decide) fun u => go ?_
  refine RegS.box (fun H1 e1 z1 b1 => ?_)
  have c1 : Box H1 H.size 34 Sl.nil.val := ⟨b1⟩
  have hc1 := hc.ext e1
  obtain ⟨es, clock, k1, k2, k3⟩ := (hm.ext e1).at_
  have hkn := hm.keys
  have hlc := hc.lt
  have hlm := hm.lt
  refine go ?_
  refine Wp.rangeG (keys_iter b c l (.map es clock) fun A h => ⟨⟨es, clock, h, k2, k3⟩, hm.wf⟩) (fun vs => [(2, .pointer (some ⟨H.size, 0, none⟩)), (5, vs.getD 0 undef)])
    (fun t A => Ext H A ∧ Chg (fun b => b = H.size) H1 A ∧ ∃ (s : Sl) (ks : List Int), Box A H.size 34 s.val ∧ OwnF IV A H1.size 3 s ks ∧ (ks ++ t.map (·.1)).Perm (l.map (·.1)))
    (fun e A => False) ?_ ?_ ?_ ?_ ?_ ?_ ?_ ?_ ?_
  · rintro t A ⟨i1, i2, _⟩
    exact ⟨hc1.chg i2 (by omega), (i2.get b (by omega) (by omega)).trans k1⟩
  · rintro t A A' ⟨i1, i2, s, ks, i3, i4, i5⟩ kk
    exact ⟨kk.above i1 (by omega), kk.turn i2 (Nat.le_refl _), s, ks, i3.keep kk, i4.keep kk, i5⟩
  · rintro e A A' h; exact h.elim
  · rintro t vs t' ⟨p, hp, rfl, rfl⟩; rfl
  · exact ⟨e1, Chg.refl _ _, Sl.nil, [], c1, OwnR.nil _ _ _ _, by simp⟩
  · rintro u l t t' A vs ⟨p, hp, rfl, rfl⟩ _
    refine go ?_
    exact ⟨rfl, rfl, rfl, rfl, rfl, trivial⟩
  · rintro u y t t' A vs nA ⟨p, hp, rfl, rfl⟩ ⟨i1, i2, s, ks, i3, i4, i5⟩
    have hkl : ks.length ≤ 1000000 := by have := i5.length_eq; simp only [List.length_append, List.length_map] at this; omega
    show Wp _ _ _ [(2, .pointer (some ⟨H.size, 0, none⟩)), (5, IK p.1)] _ _
    refine go ?_
    refine RegS.buildSlice fun A2 o2 y2 w2 => ?_
    have r2 : RowF IV 0 A2 (Sl.fresh A.size 1) [p.1] := OwnR.rowF (f := IV) (l := [p.1]) o2
    have i3' := i3.ext y2
    have i4' := i4.ext y2
    have hlt := i3.lt
    refine go ?_
    refine RegS.append (f := IV) i4' r2 (fun _ => rfl) (by have := e1.size; have := y2.size; omega) ?_ ?_ ?_
    · simp only [List.length_singleton]; omega
    · simp only [List.length_singleton]; omega
    intro s' A3 o3 c3 b3
    have i33 : Box A3 H.size 34 s.val := i3'.chg c3 fun hb => by have := (i4'.blk_ge hb).1; omega
    refine go ?_
    refine RegS.store (v := s'.val) i33.wr ?_
    have c4 := hset_chg A3 ⟨H.size, 0, none⟩ s'.val
    have hs3 := c3.size
    refine go ?_
    refine bodyG_n ((y2.calm.trans (OwnR.calm i4' c3)).trans (c4.calm fun b hb hle => by simp at hb; omega)) ⟨?_, ?_, s', ks ++ [p.1], i33.set, ?_, perm_step i5 hkn hp⟩
    · exact ((i1.trans y2).then c3 fun b hb => by have := (i4'.blk_ge hb).1; omega).then c4 fun b hb => by simp at hb; omega
    · refine ⟨Nat.le_trans i2.size (Nat.le_trans y2.size (Nat.le_trans c3.size c4.size)), fun b hb hne => ?_⟩
      have q1 := i2.get b hb hne
      have q2 := y2.get b (by have := i2.size; omega)
      have q3 := c3.get b (by have := i2.size; have := y2.size; omega) fun hb3 => by have := (i4'.blk_ge hb3).1; omega
      have q4 := c4.get b (by have := i2.size; have := y2.size; omega) fun hb4 => hne (by simpa using hb4)
      exact q4.trans (q3.trans (q2.trans q1))
    · exact OwnR.chg o3 c4 fun b hb hb' => by have := (o3.blk_ge hb).1; simp at hb'; omega
  · rintro t A D hD rfl ⟨i1, i2, s, ks, i3, i4, i5⟩ hDf
    refine go ?_
    have kk : Keep H1.size A (A.setIfInBounds D (.deferred none)) := .put hD hDf (by intros; simp)
    exact ret1d hDf ⟨s, ks, rfl, (i4.keep kk).low (by have := e1.size; omega), by simpa using i5, kk.above i1 (by have := e1.size; omega)⟩
  · rintro e A D hD h; exact h.elim
theorem collect_ok (b c : Nat) (l : KV) (H : Heap) (hm : MapI H b l) (hc : Box H c 100 (.map (some b))) (hl : l.length ≤ 1000000) :
    CallsH Tryz.prog 178 [.func (.func 180) #[] #[.pointer (some ⟨c, 0, none⟩)]] H fun v H' => ∃ (s : Sl) (ks : List Int), v = s.val ∧ OwnF IV H' H.size 3 s ks ∧ ks.Perm (l.map (·.1)) ∧ Ext H H' := by
  refine CallsH.enter h178 Tryz.func178 rfl rfl rfl (by decide) fun u => go ?_
  refine RegS.call (appendSeq_ok b c l H hm hc hl) ?_
  rintro _ H1 ⟨s, ks, rfl, o, p, x⟩
  refine go ?_
  exact ret1 ⟨s, ks, rfl, o, p, x⟩
theorem sorted_perm {ks l : List Int} (h : ks.Perm l) : sorted ks = sorted l := by
  refine List.Perm.eq_of_pairwise (le := fun a b => a ≤ b) (fun a b _ _ h1 h2 => by omega) (sorted_pair ks) (sorted_pair l) ?_
  exact (List.mergeSort_perm ks _).trans (h.trans (List.mergeSort_perm l _).symm)
theorem sortedKeys_ok (b c : Nat) (l : KV) (H : Heap) (hm : MapI H b l) (hc : Box H c 100 (.map (some b))) (hl : l.length ≤ 1000000) :
    CallsH Tryz.prog 116 [.func (.func 180) #[] #[.pointer (some ⟨c, 0, none⟩)]] H fun v H' => ∃ s : Sl, v = s.val ∧ OwnF IV H' H.size 3 s (sorted (l.map (·.1))) ∧ Ext H H' := by
  refine CallsH.enter h116 Tryz.func116 rfl rfl rfl (by decide) fun u => go ?_
  refine RegS.call (collect_ok b c l H hm hc hl) ?_
  rintro _ H1 ⟨s, ks, rfl, o, p, x⟩
  have hkl := p.length_eq
  rw [List.length_map] at hkl
  refine go ?_
  refine RegS.call (sortI_ok s ks H.size 3 H1 o (by omega)) ?_
  rintro v H2 ⟨o2, c2⟩
  rw [sorted_perm p] at o2
  refine go ?_
  exact ret1 ⟨s, rfl, o2, x.then c2 fun b hb => (o.blk_ge hb).1⟩
def keysC (c : CV) : List Int := sorted (c.map (·.1))
def rowsC (c : CV) : List (List UInt8) := (keysC c).map fun k => (cget c k).getD []
def cadd (c : CV) (k : Int) (d : List UInt8) : CV := if (cget c k).isSome then c else c ++ [(k, d)]
def keysOf (l : SV) : List Int := sorted (l.map (·.1))
def rowsOf (l : SV) : List Sl := (keysOf l).map fun k => (sget l k).getD Sl.nil
end Go.Proofs.YtaikdcnifijcoaaGreat
