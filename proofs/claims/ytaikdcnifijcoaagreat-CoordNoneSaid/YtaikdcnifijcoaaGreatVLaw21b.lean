/-
  The laws of layer 21, walked: a coordinator that is none.
-/
import Derived.Test.YtaikdcnifijcoaaGreatVLaw21
set_option linter.unusedVariables false
set_option linter.unusedSimpArgs false
namespace Go.Proofs.YtaikdcnifijcoaaGreat
open Go Go.Vc Go.Gf
theorem out21 {H A : Heap} (x : Ext H A) : CallsH Tryz.prog 18 [] A fun v H' => v = .bool true ∧ Ext H H' :=
  (answers21_ok A).mono fun v H' h => ⟨h.1, x.trans h.2⟩
theorem sameHeads0_ok (H : Heap) : CallsH Tryz.prog 87 [Sl.nil.val, Sl.nil.val] H fun v H' => v = .bool true ∧ H = H' := by
  have hr : HRow H Sl.nil [] := HRow.nil H
  refine CallsH.enter h87 Tryz.func87 rfl rfl rfl (by decide) fun u => run ?_
  refine Wp.loop (ι := Unit) (fun _ => [(0, Sl.nil.val), (1, Sl.nil.val), (5, IV 0)]) (fun _ A => A = H) (fun _ => 0) () subs rfl ?_
  rintro _ _ rfl
  refine run ?_
  exact ret1 ⟨rfl, rfl⟩
/-- An answer without lists is the same as itself. -/
theorem sameAns_ok (e : Int) (d : Bool) (H : Heap) : CallsH Tryz.prog 28 [ansV ⟨e, d, [], [], []⟩ ansS0, ansV ⟨e, d, [], [], []⟩ ansS0] H fun v H' => v = .bool true ∧ Ext H H' := by
  refine CallsH.enter h28 Tryz.func28 rfl rfl rfl (by decide) fun u => run ?_
  refine RegS.boxA fun H1 x1 z1 b1 => ?_
  have b1 : Blk H1 H.size 51 (ansC ⟨e, d, [], [], []⟩ ansS0) := b1
  refine run ?_
  refine RegS.boxA fun H2 x2 z2 b2 => ?_
  have b2 : Blk H2 H1.size 51 (ansC ⟨e, d, [], [], []⟩ ansS0) := b2
  have b12 := b1.ext x2
  have n2 : Bytes H2 Sl.nil [] := Bytes.nil H2
  have r2 : RowF IV 0 H2 Sl.nil [] := RowF.nil H2
  refine run ?_
  refine RegS.sp (fun h => absurd rfl h) (fun _ => ?_)
  refine run ?_
  refine RegS.sp (fun h => absurd rfl h) (fun _ => ?_)
  refine run ?_
  refine RegS.call (sameHeads0_ok H2) ?_
  rintro _ _ ⟨rfl, rfl⟩
  refine run ?_
  refine Wp.loop (ι := Unit) (fun _ => [(2, ptrD H.size), (3, ptrD H1.size), (5, IV 0)]) (fun _ A => A = H2) (fun _ => 0) () subs rfl ?_
  rintro _ _ rfl
  refine run ?_
  refine Wp.br (fun h => absurd (show (0 : Int) < ((0 : Nat) : Int) from h) (by omega)) (fun h => ?_)
  refine run ?_
  exact ret1 ⟨rfl, x1.trans x2⟩
set_option maxHeartbeats 8000000 in
theorem coordNone_ok (sd : Sl) (ms : MsgS) (x : StepA) (m : MsgA) (e : Int) (H : Heap) (hx : Bytes H sd x.data) (hm : MsgIn H m ms) (he : -9223372036854775808 ≤ e ∧ e ≤ 9223372036854775807) :
    CallsH Tryz.prog 8 [.agg (stepC x sd).toArray, .agg (msgC m ms).toArray, IV e] H (Fine21 H) := by
  refine CallsH.enter h8 Tryz.func8 rfl rfl rfl (by decide) fun u => run ?_
  refine RegS.boxA fun H1 x1 z1 b1 => ?_
  have b1 : Blk H1 H.size 47 (stepC x sd) := b1
  refine run ?_
  refine RegS.boxA fun H2 x2 z2 b2 => ?_
  have b2 : Blk H2 H1.size 38 (msgC m ms) := b2
  have b1 := b1.ext x2
  have X2 := x1.trans x2
  refine run ?_
  refine RegS.call (cnilCrash_ok H2) ?_
  rintro _ _ rfl
  refine run ?_
  refine RegS.call (cnilStart_ok H2) ?_
  rintro _ _ rfl
  refine run ?_
  refine RegS.call (cnilCall_ok x sd H2) ?_
  rintro _ H3 ⟨rfl, x3⟩
  have X3 := X2.trans x3
  refine run ?_
  refine RegS.allocA fun A4 y4 v4 q4 => ?_
  refine run ?_
  refine RegS.storeA (us := ansC (ansE 1) ansS0) q4 ?_
  obtain ⟨c4, x4⟩ := Blk.lay (ansC (ansE 1) ansS0) q4 y4 (Nat.le_refl _) rfl
  generalize hsets A4 H3.size 0 (ansC (ansE 1) ansS0) = H4 at c4 x4 ⊢
  have X4 := X3.trans x4
  have b24 := (b2.ext x3).ext x4
  refine run ?_
  refine RegS.call (cnilHandle_ok m ms H4) ?_
  rintro _ H5 ⟨rfl, x5⟩
  have X5 := X4.trans x5
  refine run ?_
  refine RegS.allocA fun A6 y6 v6 q6 => ?_
  refine run ?_
  refine RegS.storeA (us := ansC (ansE 1) ansS0) q6 ?_
  obtain ⟨c6, x6⟩ := Blk.lay (ansC (ansE 1) ansS0) q6 y6 (Nat.le_refl _) rfl
  generalize hsets A6 H5.size 0 (ansC (ansE 1) ansS0) = H6 at c6 x6 ⊢
  have X6 := X5.trans x6
  refine run ?_
  refine RegS.call (cnilGive_ok H6) ?_
  rintro _ H7 ⟨rfl, x7⟩
  have X7 := X6.trans x7
  refine run ?_
  refine RegS.allocA fun A8 y8 v8 q8 => ?_
  refine run ?_
  refine RegS.storeA (us := ansC (ansE 1) ansS0) q8 ?_
  obtain ⟨c8, x8⟩ := Blk.lay (ansC (ansE 1) ansS0) q8 y8 (Nat.le_refl _) rfl
  generalize hsets A8 H7.size 0 (ansC (ansE 1) ansS0) = H8 at c8 x8 ⊢
  have X8 := X7.trans x8
  refine run ?_
  refine RegS.allocA fun A9 y9 v9 q9 => ?_
  refine run ?_
  refine RegS.storeA (us := ansC (ansE 1) ansS0) q9 ?_
  obtain ⟨c9, x9⟩ := Blk.lay (ansC (ansE 1) ansS0) q9 y9 (Nat.le_refl _) rfl
  generalize hsets A9 H8.size 0 (ansC (ansE 1) ansS0) = H9 at c9 x9 ⊢
  have X9 := X8.trans x9
  refine run ?_
  refine RegS.call (cnilTask_ok H9) ?_
  rintro _ _ ⟨rfl, rfl⟩
  have d4 := (((((c4.ext x5).ext x6).ext x7).ext x8).ext x9)
  have d6 := ((c6.ext x7).ext x8).ext x9
  have d8 := c8.ext x9
  refine run ?_
  refine RegP.call (out21 (Ext.refl H9)) ?_
  rintro _ H10 ⟨rfl, x10⟩
  refine ⟨.inl x10, ?_⟩
  have e4 := d4.ext x10
  have e6 := d6.ext x10
  have e8 := d8.ext x10
  have e9 := c9.ext x10
  refine run ?_
  refine RegP.call (sameAns_ok 1 true H10) ?_
  rintro _ H11 ⟨rfl, x11⟩
  refine ⟨.inl x11, ?_⟩
  have f6 := e6.ext x11
  have f8 := e8.ext x11
  have f9 := e9.ext x11
  refine run ?_
  refine RegP.call (sameAns_ok 1 true H11) ?_
  rintro _ H12 ⟨rfl, x12⟩
  refine ⟨.inl x12, ?_⟩
  have g8 := f8.ext x12
  have g9 := f9.ext x12
  refine run ?_
  refine RegP.call (sameAns_ok 1 true H12) ?_
  rintro _ H13 ⟨rfl, x13⟩
  refine ⟨.inl x13, ?_⟩
  have i9 := g9.ext x13
  refine run ?_
  refine RegP.call (cnilEnd_ok e H13) ?_
  rintro _ H14 ⟨rfl, x14⟩
  refine ⟨.inl x14, ?_⟩
  have j9 := i9.ext x14
  refine run ?_
  refine RegP.call (sameAns_ok 1 true H14) ?_
  rintro _ H15 ⟨rfl, x15⟩
  refine ⟨.inl x15, ?_⟩
  refine run ?_
  refine RegP.call (cnilTick_ok H15) ?_
  rintro _ _ ⟨rfl, rfl⟩
  refine ⟨.inl (Ext.refl _), ?_⟩
  refine run ?_
  refine RegP.call (cnilBook_ok H15) ?_
  rintro _ _ ⟨rfl, rfl⟩
  refine ⟨.inl (Ext.refl _), ?_⟩
  refine run ?_
  exact ret1 ⟨rfl, X9.trans (((((x10.trans x11).trans x12).trans x13).trans x14).trans x15)⟩
end Go.Proofs.YtaikdcnifijcoaaGreat
