/-
  The laws of layer 21, walked: what nobody answers is given up.
-/
import Derived.Test.YtaikdcnifijcoaaGreatVLaw21q
import Derived.Test.YtaikdcnifijcoaaGreatVLaw21c
set_option linter.unusedVariables false
set_option linter.unusedSimpArgs false
namespace Go.Proofs.YtaikdcnifijcoaaGreat
open Go Go.Vc Go.Gf
theorem call_under {N T K E : Nat} {x : StepA} {c : CSt} {P : COut} (hP : cCall false N T K E x c = P) (h : P.1.done = false) : x.kind ≠ 0 := by
  subst hP
  unfold cCall at h
  split at h
  · cases h
  split at h
  · cases h
  split at h
  · cases h
  split at h
  · cases h
  split at h
  · cases h
  split at h
  · omega
  · cases h
theorem call_list {N T K E : Nat} {s : Slt} {v : BookA} (hp : s.pw = pw0) : cCall false N T K E xList ⟨s, v, task0⟩ = ({ ansE 0 with heads := v.dir }, [], ⟨s, v, task0⟩) := by
  rw [cCall, if_neg (by rw [hp]; simp [pw0]), if_neg (by simp [task0]), if_neg (by decide), if_pos (by decide)]
set_option maxHeartbeats 16000000 in
theorem coordGives_ok (N T K E R : Int) (sx : Sl) (x : StepA) (H : Heap) (hx : Bytes H sx x.data) (hp : ∀ x ∈ [N, T, K, E, R], -9223372036854775808 ≤ x ∧ x ≤ 9223372036854775807) :
    CallsH Tryz.prog 5 [pmI N T K E R, .agg (stepC x sx).toArray] H (Fine21 H) := by
  refine CallsH.enter h5 Tryz.func5 rfl rfl rfl (by decide) fun u => run ?_
  refine RegS.boxA fun H1 x1 z1 b1 => ?_
  refine run ?_
  refine RegS.boxA fun H3 x3 z3 b3 => ?_
  have b2 : Blk H3 H1.size 47 (stepC x sx) := b3
  have b1 := b1.ext x3
  have X3 := x1.trans x3
  refine run ?_
  refine RegS.call (good_ok N T K E R H3) ?_
  rintro _ H4 ⟨rfl, x4⟩
  have b1 := b1.ext x4
  have b2 := b2.ext x4
  have X4 := X3.trans x4
  by_cases hg : GoodP N T K E R
  case neg =>
    rw [dec_neg hg]
    refine run ?_
    refine RegS.call (out21x X4) ?_
    rintro _ H5 ⟨rfl, e5⟩
    refine run ?_
    exact ret1 ⟨rfl, e5⟩
  rw [dec_pos hg]
  obtain ⟨N, T, K, E, R, rfl, rfl, rfl, rfl, rfl, hN, hT0, hT, hK, hE⟩ := goodP_nat hg
  have b1 : Blk H4 H.size 23 (pmL N T K E R) := b1
  have done : ∀ {A : Heap}, Ext H4 A → CallsH Tryz.prog 18 [] A (fun v H' => v = .bool true ∧ Ext H H') := fun e => out21x (X4.trans e)
  refine run ?_
  refine RegS.sp (fun hl => ?_) (fun hl => ?_)
  · refine run ?_
    refine RegS.call (done (Ext.refl _)) ?_
    rintro _ H5 ⟨rfl, e5⟩
    refine run ?_
    exact ret1 ⟨rfl, e5⟩
  refine run ?_
  refine RegS.sp (fun hl => ?_) (fun hl => ?_)
  · refine run ?_
    refine RegS.call (done (Ext.refl _)) ?_
    rintro _ H5 ⟨rfl, e5⟩
    refine run ?_
    exact ret1 ⟨rfl, e5⟩
  have hk3 : ¬ x.kind = ((3 : Nat) : Int) := hl
  refine run ?_
  refine Wp.br (fun hl => ?_) (fun hl => ?_)
  · refine run ?_
    refine RegS.call (done (Ext.refl _)) ?_
    rintro _ H5 ⟨rfl, e5⟩
    refine run ?_
    exact ret1 ⟨rfl, e5⟩
  refine run ?_
  refine RegS.call (conew_ok (N := N) (T := T) (K := K) (E := E) (R := R) (wf0 H4)) ?_
  rintro _ H5 ⟨cb, fb, bb, sb, O5, rfl, st5, hc5⟩
  have h5 : CoIs H5 O5 cb fb bb sb N T K E R false (c0 N) taskS0 := ⟨hc5, .inl ⟨rfl, rfl⟩, taskOk0 N⟩
  have z3' := X3.size
  have e5 := Step.ext0 st5 id
  have hx5 := (Bytes.ext hx X4).ext e5
  have p2 := b2.ext e5
  refine run ?_
  refine RegS.call (coCall_ok x sx hx5 (not_co st5 hc5.own (Bytes.ext hx X4)) hN hT hK hE st5.wf h5 (fun hk => absurd rfl hk) (fun _ => rfl)) ?_
  rintro r H6 ⟨sa, w, L, O6, ts6, rfl, ha, hm, hL, st6, h6, hgs⟩
  obtain ⟨hpw, hsh⟩ := shape_call (N := N) (T := T) (K := K) (E := E) (x := x) (c := c0 N) rfl rfl
  have hdir := dir_call (N := N) (T := T) (K := K) (E := E) (x := x) (c := c0 N) rfl
  generalize hP : cCall false N T K E x (c0 N) = P at ha hL h6 hgs hpw hsh hdir
  have s6 : Step Co H4 (fun _ => 0) H6 O6 := (st5.mono fun x e => e.elim).trans st6
  have e6 := Step.ext0 s6 co0
  refine run ?_
  refine RegS.allocA fun AA yA vA qA => ?_
  refine run ?_
  refine RegS.storeA (us := ansC P.1 sa) qA ?_
  obtain ⟨qB, stB, oB⟩ := ans_new P.1 sa st6.wf yA qA rfl
  generalize hsets AA H6.size 0 (ansC P.1 sa) = HB at qB stB ⊢
  have hB := h6.step stB id id id id id
  have sB := s6.trans (stB.mono (S' := Co) fun x e => e.elim)
  have eB := Step.ext0 sB co0
  rcases hsh with ⟨hdn, hk0⟩ | ⟨hdn, hkk, hgot⟩
  · refine run ?_
    rw [hdn]
    refine run ?_
    refine RegS.call (done eB) ?_
    rintro _ H5 ⟨rfl, e5⟩
    refine run ?_
    exact ret1 ⟨rfl, e5⟩
  refine run ?_
  rw [hdn]
  refine run ?_
  refine RegS.call (coBook_ok hB.at_) ?_
  rintro _ _ ⟨rfl, rfl⟩
  refine run ?_
  refine RegS.call (view_ok P.2.2.v hN stB.wf hB.at_.book hB.is) ?_
  rintro _ H7 ⟨k, rfl, hkv, x7, g1, g2, g3, nw⟩
  have st7 : Step (fun _ => False) HB O6 H7 O6 := x7.step stB.wf
  have h7 := hB.step st7 id id id id id
  have wr : WasRo H7 O6 P.2.2.v k := ⟨RoH.new hkv.dir stB.wf g1, RoF.new hkv.up stB.wf g2, RoF.new hkv.com stB.wf g3⟩
  have hfit := hB.is.fit
  refine run ?_
  refine RegS.allocA fun A8 y8 v8 q8 => ?_
  have q8 : Blk A8 H7.size 55 [IV 0, IV 0, IV 0, Sl.nil.val, Sl.nil.val, Sl.nil.val] := q8
  refine run ?_
  refine RegS.storeA (us := bookC P.2.2.v k) q8 ?_
  obtain ⟨q9, x9⟩ := Blk.lay (bookC P.2.2.v k) q8 y8 (Nat.le_refl _) rfl
  generalize hsets A8 H7.size 0 (bookC P.2.2.v k) = H9 at q9 x9 ⊢
  have st9 : Step (fun _ => False) H7 O6 H9 O6 := x9.step st7.wf
  have h9 := h7.step st9 id id id id id
  have wr9 := wr.step st9 id
  have o9 : O6 H7.size = 0 := st7.wf.new _ (Nat.le_refl _)
  have s9 := (sB.trans (st7.mono fun x e => e.elim)).trans (st9.mono fun x e => e.elim)
  have e9 := Step.ext0 s9 co0
  have hkn : P.2.2.t.kind ≠ 0 := by rw [hkk]; exact call_under hP hdn
  refine run ?_
  refine RegS.call (coGive0_ok hN hT hK hE hT0 st9.wf h9 (by rw [hpw]; rfl) hkn hgot (hgs hkn)) ?_
  rintro r H10 ⟨sb', w', L', O10, ts10, rfl, ha', hm', hL', st10, h10, hgs10⟩
  have h10 : CoIs H10 O10 cb fb bb sb N T K E R false ⟨P.2.2.s, P.2.2.v, task0⟩ ts10 := h10
  have hL' : L' = [] := by
    have := congrArg List.length hL'
    rw [List.length_map] at this
    exact List.eq_nil_of_length_eq_zero this
  subst hL'
  have wr10 := wr9.step st10 co0
  have q10 := q9.step st10 (by rw [o9]; exact co0)
  refine run ?_
  refine RegS.allocA fun A11 y11 v11 q11 => ?_
  refine run ?_
  refine RegS.storeA (us := ansC (ansE 5) sb') q11 ?_
  obtain ⟨q12, st12, o12⟩ := ans_new (ansE 5) sb' st10.wf y11 q11 rfl
  generalize hsets A11 H10.size 0 (ansC (ansE 5) sb') = H12 at q12 st12 ⊢
  have h12 := h10.step st12 id id id id id
  have wr12 := wr10.step st12 id
  have m12 := hm'.step st12 id
  have k12 := q10.step st12 id
  have s12 := (s9.trans st10).trans (st12.mono fun x e => e.elim)
  refine run ?_
  refine RegS.call (coTask_ok h12.at_) ?_
  rintro _ _ ⟨rfl, rfl⟩
  refine run ?_
  refine RegS.call (coCall_ok xList Sl.nil (RowF.nil _) (fun hp => by simp [Sl.nil] at hp) hN hT hK hE st12.wf h12 (fun hk => absurd rfl hk) (fun hk => absurd hk (by decide))) ?_
  rintro r H13 hr
  rw [call_list hpw] at hr
  obtain ⟨sc, w13, L13, O13, ts13, rfl, ha13, hm13, hL13, st13, h13, hgs13⟩ := hr
  have h13 : CoIs H13 O13 cb fb bb sb N T K E R false ⟨P.2.2.s, P.2.2.v, task0⟩ ts13 := h13
  have wr13 := wr12.step st13 co0
  have k13 := k12.step st13 (by rw [st12.agr _ q10.lt, st10.agr _ q9.lt, o9]; exact co0)
  have q13 := q12.step st13 (by rw [o12]; exact co0)
  have m13 := m12.step st13 co0
  have s13 := s12.trans st13
  refine run ?_
  refine RegS.allocA fun A14 y14 v14 q14 => ?_
  refine run ?_
  refine RegS.storeA (us := ansC { ansE 0 with heads := P.2.2.v.dir } sc) q14 ?_
  obtain ⟨q15, st15, o15⟩ := ans_new { ansE 0 with heads := P.2.2.v.dir } sc st13.wf y14 q14 rfl
  generalize hsets A14 H13.size 0 (ansC { ansE 0 with heads := P.2.2.v.dir } sc) = H15 at q15 st15 ⊢
  have h15 := h13.step st15 id id id id id
  have wr15 := wr13.step st15 id
  have k15 := k13.step st15 id
  have u15 := q13.step st15 id
  have m15 := m13.step st15 id
  have s15 := s13.trans (st15.mono fun x e => e.elim)
  refine run ?_
  refine RegP.call (out21x (Ext.refl H15)) ?_
  rintro _ H16 ⟨rfl, x16⟩
  refine ⟨.inl x16, ?_⟩
  have st16 : Step (fun _ => False) H15 O13 H16 O13 := x16.step st15.wf
  have h16 := h15.step st16 id id id id id
  have wr16 := wr15.step st16 id
  have k16 := k15.ext x16
  have u16 := u15.ext x16
  have q16 := q15.ext x16
  have m16 := (m15.step st16 id).list.row
  have g1' : (ansE 5).e = ((5 : Nat) : Int) := rfl
  have g2' : ((([] : List MsgP).length : Nat) : Int) = ((0 : Nat) : Int) := rfl
  have g5' : bookB P.2.2.v = bookB P.2.2.v := rfl
  have g6' : ({ ansE 0 with heads := P.2.2.v.dir } : AnsA).e = ((0 : Nat) : Int) := rfl
  refine run ?_
  refine RegP.call (coBook_ok h16.at_) ?_
  rintro _ _ ⟨rfl, rfl⟩
  refine ⟨.inl (Ext.refl _), ?_⟩
  refine run ?_
  refine RegP.call (view_ok P.2.2.v hN st16.wf h16.at_.book h16.is) ?_
  rintro _ H17 ⟨k2, rfl, hk2, x17, _, _, _, _⟩
  refine ⟨.inl x17, ?_⟩
  have u17 := u16.ext x17
  have q17 := q16.ext x17
  refine run ?_
  refine RegP.call (refSame_ok P.2.2.v P.2.2.v k k2 H17 (wr16.inn.ext x17) hk2 (bookSm_fit hfit hN) (bookSm_fit hfit hN)) ?_
  rintro _ H18 ⟨rfl, x18⟩
  refine ⟨.inl x18, ?_⟩
  have q18 := q17.ext x18
  refine run ?_
  refine ret1 ⟨?_, X4.trans ((Step.ext0 (s15.trans (st16.mono fun x e => e.elim)) co0).trans (x17.trans x18))⟩
  exact congrArg Value.bool (dec_pos g6')
end Go.Proofs.YtaikdcnifijcoaaGreat
