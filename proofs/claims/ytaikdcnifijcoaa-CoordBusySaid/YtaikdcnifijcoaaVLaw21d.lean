/-
  The laws of layer 21, walked: as long as a call is under way no other one begins.
-/
import Derived.Test.YtaikdcnifijcoaaVLaw21q
set_option linter.unusedVariables false
set_option linter.unusedSimpArgs false
namespace Go.Proofs.Ytaikdcnifijcoaa
open Go Go.Vc Go.Gf
set_option maxHeartbeats 16000000 in
theorem coordBusy_ok (N T K E R : Int) (sx sy : Sl) (x y : StepA) (H : Heap) (hx : Bytes H sx x.data) (hy : Bytes H sy y.data) (hp : ∀ x ∈ [N, T, K, E, R], -9223372036854775808 ≤ x ∧ x ≤ 9223372036854775807) :
    CallsH Try.prog 3 [pmI N T K E R, .agg (stepC x sx).toArray, .agg (stepC y sy).toArray] H (Fine21 H) := by
  refine CallsH.enter h3 Try.func3 rfl rfl rfl (by decide) fun u => run ?_
  refine RegS.boxA fun H1 x1 z1 b1 => ?_
  refine run ?_
  refine RegS.boxA fun H2 x2 z2 b2 => ?_
  have b2 : Blk H2 H1.size 26 (stepC x sx) := b2
  have b1 := b1.ext x2
  refine run ?_
  refine RegS.boxA fun H3 x3 z3 b3 => ?_
  have b3 : Blk H3 H2.size 26 (stepC y sy) := b3
  have b1 := b1.ext x3
  have b2 := b2.ext x3
  have X3 := (x1.trans x2).trans x3
  refine run ?_
  refine RegS.call (good_ok N T K E R H3) ?_
  rintro _ H4 ⟨rfl, x4⟩
  have b1 := b1.ext x4
  have b2 := b2.ext x4
  have b3 := b3.ext x4
  have X4 := X3.trans x4
  by_cases hg : GoodP N T K E R
  case neg =>
    rw [dec_neg hg]
    refine run ?_
    refine RegS.call (out21x X4) ?_
    rintro _ H5 ⟨rfl, e5⟩
    refine run ?_
    exact ret1 ⟨rfl, e5⟩
  rw [dec_pos hg]
  obtain ⟨N, T, K, E, R, rfl, rfl, rfl, rfl, rfl, hN, hT0, hT, hK, hE⟩ := goodP_nat hg
  have b1 : Blk H4 H.size 23 (pmL N T K E R) := b1
  refine run ?_
  refine Wp.br (fun hl => ?_) (fun hl => ?_)
  · refine run ?_
    refine RegS.call (out21x X4) ?_
    rintro _ H5 ⟨rfl, e5⟩
    refine run ?_
    exact ret1 ⟨rfl, e5⟩
  refine run ?_
  refine RegS.call (conew_ok (N := N) (T := T) (K := K) (E := E) (R := R) (wf0 H4)) ?_
  rintro _ H5 ⟨cb, fb, bb, sb, O5, rfl, st5, hc5⟩
  have h5 : CoIs H5 O5 cb fb bb sb N T K E R false (c0 N) taskS0 := ⟨hc5, .inl ⟨rfl, rfl⟩, taskOk0 N⟩
  have z3' := X3.size
  have e5 := Step.ext0 st5 id
  have hx5 := (Bytes.ext hx X4).ext e5
  have p2 := b2.ext e5
  refine run ?_
  refine RegS.call (coCall_ok x sx hx5 (not_co st5 hc5.own (Bytes.ext hx X4)) hN hT hK hE st5.wf h5 (fun hk => absurd rfl hk) (fun _ => rfl)) ?_
  rintro r H6 ⟨sa, w, L, O6, ts6, rfl, ha, hm, hL, st6, h6, hgs⟩
  obtain ⟨hpw, hsh⟩ := shape_call (N := N) (T := T) (K := K) (E := E) (x := x) (c := c0 N) rfl rfl
  have hdir := dir_call (N := N) (T := T) (K := K) (E := E) (x := x) (c := c0 N) rfl
  generalize hP : cCall false N T K E x (c0 N) = P at ha hL h6 hgs hpw hsh hdir
  have s6 : Step Co H4 (fun _ => 0) H6 O6 := (st5.mono fun x e => e.elim).trans st6
  have e6 := Step.ext0 s6 co0
  refine run ?_
  refine RegS.call (coTask_ok h6.at_) ?_
  rintro _ _ ⟨rfl, rfl⟩
  refine run ?_
  refine Wp.br (fun hk => ?_) (fun hk => ?_)
  · refine run ?_
    refine RegS.call (out21x (X4.trans e6)) ?_
    rintro _ H7 ⟨rfl, e7⟩
    refine run ?_
    exact ret1 ⟨rfl, e7⟩
  have hk : ¬ P.2.2.t.kind = 0 := hk
  refine run ?_
  refine RegS.call (coBook_ok h6.at_) ?_
  rintro _ _ ⟨rfl, rfl⟩
  refine run ?_
  refine RegS.call (view_ok P.2.2.v hN st6.wf h6.at_.book h6.is) ?_
  rintro _ H7 ⟨k, rfl, hkv, x7, g1, g2, g3, nw⟩
  have st7 : Step (fun _ => False) H6 O6 H7 O6 := x7.step st6.wf
  have h7 := h6.step st7 id id id id id
  have wr : WasRo H7 O6 P.2.2.v k := ⟨RoH.new hkv.dir st6.wf g1, RoF.new hkv.up st6.wf g2, RoF.new hkv.com st6.wf g3⟩
  have hfit := h6.is.fit
  refine run ?_
  refine RegS.allocA fun A8 y8 v8 q8 => ?_
  have q8 : Blk A8 H7.size 43 [IV 0, IV 0, IV 0, Sl.nil.val, Sl.nil.val, Sl.nil.val] := q8
  refine run ?_
  refine RegS.storeA (us := bookC P.2.2.v k) q8 ?_
  obtain ⟨q9, x9⟩ := Blk.lay (bookC P.2.2.v k) q8 y8 (Nat.le_refl _) rfl
  generalize hsets A8 H7.size 0 (bookC P.2.2.v k) = H9 at q9 x9 ⊢
  have st9 : Step (fun _ => False) H7 O6 H9 O6 := x9.step st7.wf
  have h9 := h7.step st9 id id id id id
  have wr9 := wr.step st9 id
  have o9 : O6 H7.size = 0 := st7.wf.new _ (Nat.le_refl _)
  have s9 := (s6.trans (st7.mono fun x e => e.elim)).trans (st9.mono fun x e => e.elim)
  have e9 := Step.ext0 s9 co0
  have p3 := b3.ext e9
  have hy9 := (Bytes.ext hy X4).ext e9
  refine run ?_
  refine RegS.call (coCall_ok y sy hy9 (not_co s9 h9.at_.own (Bytes.ext hy X4)) hN hT hK hE st9.wf h9 hgs (fun _ => hdir)) ?_
  rintro r H10 hr
  rw [call_busy hpw hk] at hr
  obtain ⟨sb', w', L', O10, ts10, rfl, ha', hm', hL', st10, h10, hgs10⟩ := hr
  have h10 : CoIs H10 O10 cb fb bb sb N T K E R false P.2.2 ts10 := h10
  have hL' : L' = [] := by
    have := congrArg List.length hL'
    rw [List.length_map] at this
    exact List.eq_nil_of_length_eq_zero this
  subst hL'
  have wr10 := wr9.step st10 co0
  have q10 := q9.step st10 (by rw [o9]; exact co0)
  refine run ?_
  refine RegS.allocA fun A11 y11 v11 q11 => ?_
  refine run ?_
  refine RegS.storeA (us := ansC (ansE 4) sb') q11 ?_
  obtain ⟨q12, st12, o12⟩ := ans_new (ansE 4) sb' st10.wf y11 q11 rfl
  generalize hsets A11 H10.size 0 (ansC (ansE 4) sb') = H12 at q12 st12 ⊢
  have h12 := h10.step st12 id id id id id
  have wr12 := wr10.step st12 id
  have m12 := hm'.step st12 id
  have k12 := q10.step st12 id
  have s12 := (s9.trans st10).trans (st12.mono fun x e => e.elim)
  refine run ?_
  refine RegS.call (coTask_ok h12.at_) ?_
  rintro _ _ ⟨rfl, rfl⟩
  refine run ?_
  refine RegP.call (out21x (Ext.refl H12)) ?_
  rintro _ H13 ⟨rfl, x13⟩
  have st13 : Step (fun _ => False) H12 O10 H13 O10 := x13.step st12.wf
  have h13 := h12.step st13 id id id id id
  have wr13 := wr12.step st13 id
  have m13 := (m12.step st13 id).list.row
  have k13 := k12.ext x13
  have a13 := q12.ext x13
  have g1' : (ansE 4).e = ((4 : Nat) : Int) := rfl
  have g2' : ((([] : List MsgP).length : Nat) : Int) = ((0 : Nat) : Int) := rfl
  have g3' : P.2.2.t.kind = P.2.2.t.kind := rfl
  have g4' : P.2.2.t.session = P.2.2.t.session := rfl
  refine ⟨.inl x13, ?_⟩
  refine run ?_
  refine RegP.call (coBook_ok h13.at_) ?_
  rintro _ _ ⟨rfl, rfl⟩
  refine ⟨.inl (Ext.refl _), ?_⟩
  refine run ?_
  refine RegP.call (view_ok P.2.2.v hN st13.wf h13.at_.book h13.is) ?_
  rintro _ H15 ⟨k2, rfl, hk2, x15, _, _, _, _⟩
  refine ⟨.inl x15, ?_⟩
  refine run ?_
  refine RegP.call (refSame_ok P.2.2.v P.2.2.v k k2 H15 (wr13.inn.ext x15) hk2 (bookSm_fit hfit hN) (bookSm_fit hfit hN)) ?_
  rintro _ H16 ⟨rfl, x16⟩
  refine ⟨.inl x16, ?_⟩
  refine run ?_
  exact ret1 ⟨congrArg Value.bool (dec_pos rfl), X4.trans ((Step.ext0 (s12.trans (st13.mono fun x e => e.elim)) co0).trans (x15.trans x16))⟩
end Go.Proofs.Ytaikdcnifijcoaa
