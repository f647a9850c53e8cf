/-
  The laws of layer 21, walked: known answers.
-/
import Derived.Test.YtaikdcnifijcoaaVCo10
import Derived.Test.YtaikdcnifijcoaaVRefDir
set_option linter.unusedVariables false
set_option linter.unusedSimpArgs false
namespace Go.Proofs.Ytaikdcnifijcoaa
open Go Go.Vc Go.Gf
def Fine21 (H : Heap) (v : Value) (H' : Heap) : Prop := v = .bool true ∧ Ext H H'
theorem wf0 (H : Heap) : WfO H (fun _ => 0) := ⟨fun _ _ => rfl⟩
theorem Step.ext0 {S : Nat → Prop} {H H' : Heap} {O' : Ow} (st : Step S H (fun _ => 0) H' O') (h0 : ¬ S 0) : Ext H H' := (Ext.refl H).then st.chg fun b hb => absurd hb h0
theorem book0_fit (N : Nat) : BookFit N (book0 N) := BkIs.fit (s := slt0 512) (.inl ⟨rfl, rfl⟩)
theorem fresh_save {N : Nat} {s : Slt} {v' : BookA} (hn : N ≤ 255) (hp : s.pw = pw0) (hr : s.room = 512) (hf : BookFit N v') : (bkChange false s v' 0).2 = 0 := by
  have hl := bookB_len hf hn
  unfold bkChange
  rw [if_neg (by rw [hp]; simp [pw0]), if_neg (by simp)]
  exact save_ok0 hp (by rw [hr]; unfold takesN; omega)
theorem begA_fresh {N : Nat} {s : Slt} {v : BookA} (hn : N ≤ 255) (hp : s.pw = pw0) (hr : s.room = 512) (hf : BookFit N v) (hs : v.session < 1073741824) : (begA false s v).2 = 0 := by
  have e : (nextA v).2 = 0 := by unfold nextA; rw [if_neg (by omega)]
  unfold begA
  rw [e]
  exact fresh_save hn hp hr (nextA_fit hf)
/-- A coordinator as it is made. -/
def c0 (N : Nat) : CSt := ⟨slt0 512, book0 N, task0⟩
def xRef : StepA := ⟨5, 0, 0, 0, [], []⟩
def xList : StepA := ⟨4, 0, 0, 0, [], []⟩
def tRef : TaskA := cTask (cNew 5 (c0 3)) 3 2 0 [0, 1, 2]
def cR : CSt := ⟨(begA false (slt0 512) (book0 3)).1, (nextA (book0 3)).1, tRef⟩
theorem call_ref : cCall false 3 1 1 0 xRef (c0 3) = (ans0, askL tRef (nextA (book0 3)).1 [0, 1, 2], cR) := by
  have e1 : cCall false 3 1 1 0 xRef (c0 3) = cBegin false 3 2 0 [0, 1, 2] (cNew 5 (c0 3)) := by rfl
  rw [e1, cBegin, if_neg (by
    have := begA_fresh (N := 3) (s := slt0 512) (v := book0 3) (by omega) rfl rfl (book0_fit 3) (by decide)
    show ¬ (begA false (slt0 512) (book0 3)).2 ≠ 0
    rw [this]; simp)]
  rfl
/-- A call that is under way. -/
theorem call_busy {N T K E : Nat} {x : StepA} {c : CSt} (hp : c.s.pw = pw0) (hk : c.t.kind ≠ 0) : cCall false N T K E x c = (ansE 4, [], c) := by
  rw [cCall, if_neg (by rw [hp]; simp [pw0]), if_pos hk]
/-- An answer, laid into a new block. -/
theorem ans_new {H H1 : Heap} {O : Ow} {cs : List Value} (a : AnsA) (sa : AnsS) (hw : WfO H O) (x : Ext H H1) (b : Blk H1 H.size 35 cs) (hl : cs.length = 5) : Blk (hsets H1 H.size 0 (ansC a sa)) H.size 35 (ansC a sa) ∧ Step (fun _ => False) H O (hsets H1 H.size 0 (ansC a sa)) O ∧ O H.size = 0 := by
  have h5 : puts cs 0 (ansC a sa) = ansC a sa := by
    match cs, hl with
    | [_, _, _, _, _], _ => rfl
  obtain ⟨b2, x2⟩ := Blk.lay (ansC a sa) b x (Nat.le_refl _) h5
  exact ⟨b2, x2.step hw, hw.new _ (Nat.le_refl _)⟩
set_option maxHeartbeats 8000000 in
theorem answers21_ok (H : Heap) : CallsH Try.prog 5 [] H (Fine21 H) := by
  refine CallsH.enter h5 Try.func5 rfl rfl rfl (by decide) fun u => run ?_
  refine RegS.call (conew_ok (N := 3) (T := 1) (K := 1) (E := 0) (R := 9) (wf0 H)) ?_
  rintro _ H1 ⟨cb, fb, bb, sb, O1, rfl, st1, hc1⟩
  have h1 : CoIs H1 O1 cb fb bb sb 3 1 1 0 9 false (c0 3) taskS0 := ⟨hc1, .inl ⟨rfl, rfl⟩, taskOk0 3⟩
  refine run ?_
  refine RegS.call (coCall_ok xRef Sl.nil (RowF.nil _) (fun hp => by simp [Sl.nil] at hp) (by omega) (by omega) (by omega) (by omega) st1.wf h1 (fun hk => absurd rfl hk) (fun hk => absurd hk (by decide))) ?_
  rintro r H2 hr
  rw [call_ref] at hr
  obtain ⟨sa, w, L, O2, ts2, rfl, ha, hm, hL, st2, h2, hgs⟩ := hr
  have h2 : CoIs H2 O2 cb fb bb sb 3 1 1 0 9 false cR ts2 := h2
  have hgs : cR.t.kind ≠ 0 → ts2.got.isSome = true := hgs
  have s2 : Step Co H (fun _ => 0) H2 O2 := (st1.mono fun x e => e.elim).trans st2
  refine run ?_
  refine RegS.allocA fun A1 y1 v1 q1 => ?_
  refine run ?_
  refine RegS.storeA (us := ansC ans0 sa) q1 ?_
  obtain ⟨q3, st3, o3⟩ := ans_new ans0 sa st2.wf y1 q1 rfl
  generalize hsets A1 H2.size 0 (ansC ans0 sa) = H3 at q3 st3 ⊢
  have h3 := h2.step st3 id id id id id
  have m3 := hm.step st3 id
  refine run ?_
  refine RegS.call (coTask_ok h3.at_) ?_
  rintro _ _ ⟨rfl, rfl⟩
  refine run ?_
  refine RegS.call (coCall_ok xList Sl.nil (RowF.nil _) (fun hp => by simp [Sl.nil] at hp) (by omega) (by omega) (by omega) (by omega) st3.wf h3 hgs (fun hk => absurd hk (by decide))) ?_
  rintro r H4 hr
  rw [call_busy (c := cR) (bk_pw rfl) (show tRef.kind ≠ 0 by decide)] at hr
  obtain ⟨sb, w4, L4, O4, ts4, rfl, ha4, hm4, hL4, st4, h4, hgs4⟩ := hr
  have q4 := q3.step st4 (by rw [o3]; exact co0)
  have m4 := m3.step st4 co0
  refine run ?_
  refine RegS.allocA fun A5 y5 v5 q5 => ?_
  refine run ?_
  refine RegS.storeA (us := ansC (ansE 4) sb) q5 ?_
  obtain ⟨q6, st6, o6⟩ := ans_new (ansE 4) sb st4.wf y5 q5 rfl
  generalize hsets A5 H4.size 0 (ansC (ansE 4) sb) = H6 at q6 st6 ⊢
  have q7 := q4.step st6 id
  have m6 := m4.step st6 id
  have hrow := m6.list.row
  have hlen : L.length = 3 := by
    have := congrArg List.length hL
    rw [List.length_map] at this
    rw [this]; rfl
  have hk2 : (L.getD 2 (msg0, msgS0)).1.kind = 5 := by
    have e : (L.map (·.1)).getD 2 msg0 = (L.getD 2 (msg0, msgS0)).1 := by
      rw [List.getD_eq_getElem?_getD, List.getElem?_map, List.getD_eq_getElem?_getD]
      cases L[2]? <;> rfl
    rw [← e, hL]; rfl
  have sF : Step Co H (fun _ => 0) H6 O4 := (((s2.trans (st3.mono fun x e => e.elim)).trans st4).trans (st6.mono fun x e => e.elim))
  refine run ?_
  refine RegS.sp (fun _ => ?_) (fun h => absurd rfl h)
  refine run ?_
  repeat (refine RegS.sp (fun _ => ?_) (fun h => absurd rfl h); refine run ?_)
  exact ret1 ⟨rfl, Step.ext0 sF co0⟩
end Go.Proofs.Ytaikdcnifijcoaa
