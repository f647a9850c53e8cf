/-
  The laws of layer 11, walked: known answers.
-/
import Derived.Test.YtccgbgjhjpllcaaVOpenK
set_option linter.unusedVariables false
set_option linter.unusedSimpArgs false
namespace Go.Proofs.Ytccgbgjhjpllcaa
open Go Go.Vc Go.Gf

set_option maxHeartbeats 4000000 in
theorem answers11_ok (H : Heap) : CallsH Try.prog 23 [] H fun v H' => v = .bool true ∧ Ext H H' := by
  refine CallsH.enter h23 Try.func23 rfl rfl rfl (by decide) fun u => go ?_
  refine RegS.allocA fun H1 x1 z1 b1 => ?_
  refine RegS.storeA b1 ?_
  generalize hA : hsets H1 H.size 0 _ = A
  have b2 : Blk A H.size 23 (pmL 5 1 1 1 9) := by rw [← hA]; exact Blk.sets _ 0 b1
  have x2 : Ext H A := by rw [← hA]; exact x1.then (hsets_chg H.size _ 0 H1) fun b hb => by omega
  refine go ?_
  refine RegS.call (new_ok A) ?_
  rintro _ A1 ⟨fb, rfl, hF, e1⟩
  have b3 := b2.ext e1
  have x3 := x2.trans e1
  refine go ?_
  refine RegS.buildSlice fun B0 o0 y0 w0 => ?_
  refine go ?_
  refine RegS.buildSlice fun B1 o1 y1 w1 => ?_
  refine go ?_
  refine RegS.buildSlice fun B2 o2 y2 w2 => ?_
  refine go ?_
  refine RegS.buildSlice fun B3 o3 y3 w3 => ?_
  refine go ?_
  refine RegS.buildSlice fun B4 o4 y4 w4 => ?_
  refine go ?_
  refine RegS.buildSlice fun B5 o5 y5 w5 => ?_
  refine go ?_
  refine RegS.buildSlice fun B6 o6 y6 w6 => ?_
  have y56 := y5.trans y6
  have y46 := y4.trans y56
  have y36 := y3.trans y46
  have y26 := y2.trans y36
  have y16 := y1.trans y26
  have y06 := y0.trans y16
  have r0 : RowF IV 0 B6 (Sl.fresh A1.size 5) [0, 1, 2, 3, 4] := (OwnR.rowF (f := IV) (l := [0, 1, 2, 3, 4]) o0).ext y16
  have m1 : Bytes B6 (Sl.fresh B0.size 1) [7] := ((OwnR.mine (e := 5) (l := [7]) o1).ext y26).bytes
  have m2 : Bytes B6 (Sl.fresh B1.size 1) [7] := ((OwnR.mine (e := 5) (l := [7]) o2).ext y36).bytes
  have m3 : Bytes B6 (Sl.fresh B2.size 1) [8] := ((OwnR.mine (e := 5) (l := [8]) o3).ext y46).bytes
  have m4 : Bytes B6 (Sl.fresh B3.size 1) [7] := ((OwnR.mine (e := 5) (l := [7]) o4).ext y56).bytes
  have m5 : Bytes B6 (Sl.fresh B4.size 1) [7] := ((OwnR.mine (e := 5) (l := [7]) o5).ext y6).bytes
  have r6 : RowF Sl.val Sl.nil B6 (Sl.fresh B5.size 5) [Sl.fresh B0.size 1, Sl.fresh B1.size 1, Sl.fresh B2.size 1, Sl.fresh B3.size 1, Sl.fresh B4.size 1] := OwnR.rowF (f := Sl.val) (l := [Sl.fresh B0.size 1, Sl.fresh B1.size 1, Sl.fresh B2.size 1, Sl.fresh B3.size 1, Sl.fresh B4.size 1]) o6
  have rr : BRows B6 (Sl.fresh B5.size 5) [Sl.fresh B0.size 1, Sl.fresh B1.size 1, Sl.fresh B2.size 1, Sl.fresh B3.size 1, Sl.fresh B4.size 1] knRows := brows_of r6 rfl fun k hk => by
    have hk : k < 5 := hk
    match k, hk with
    | 0, _ => exact m1
    | 1, _ => exact m2
    | 2, _ => exact m3
    | 3, _ => exact m4
    | 4, _ => exact m5
  have hF6 := hF.ext y06
  have b6 := b3.ext y06
  have x6 := x3.trans y06
  clear o0 o1 o2 o3 o4 o5 o6 m1 m2 m3 m4 m5 r6 y0 y1 y2 y3 y4 y5 y6 y56 y46 y36 y26 y16 y06 w0 w1 w2 w3 w4 w5 w6 b1 b2 b3 x1 x2 x3 z1 hA e1 hF
  refine go ?_
  refine RegS.call (open_ok fb 5 1 1 1 9 1 _ _ _ _ knRows B6 hF6 r0 rr (by decide) (by decide) (by omega) (by omega) (by omega) (by omega) (by omega) (by omega) (by omega) (by omega)) ?_
  rintro _ D ⟨d1, hr⟩
  obtain ⟨hs1, qs1, a1, w1', f1, rfl, ma, ow⟩ | ⟨hno, rfl⟩ := hr
  case inr => exact absurd kn_found (hno _ _)
  obtain ⟨rfl, rfl⟩ := f1.one kn_found
  rw [kn_off] at ow
  rw [kn1.2.2.2.2.2.2.2] at ma
  have b4 := b6.ext d1
  have x4 := x6.trans d1
  have hF4 := hF6.ext d1
  clear r0 rr hF6 b6 x6 d1
  refine go ?_
  refine RegS.buildSlice fun C0 p0 q0 v0 => ?_
  refine go ?_
  refine RegS.buildSlice fun C1 p1 q1 v1 => ?_
  refine go ?_
  refine RegS.buildSlice fun C2 p2 q2 v2 => ?_
  refine go ?_
  refine RegS.buildSlice fun C3 p3 q3 v3 => ?_
  refine go ?_
  refine RegS.buildSlice fun C4 p4 q4 v4 => ?_
  have q34 := q3.trans q4
  have q24 := q2.trans q34
  have q14 := q1.trans q24
  have q04 := q0.trans q14
  have u0 : RowF IV 0 C4 (Sl.fresh D.size 3) [0, 1, 2] := (OwnR.rowF (f := IV) (l := [0, 1, 2]) p0).ext q14
  have n1 : Bytes C4 (Sl.fresh C0.size 1) [7] := ((OwnR.mine (e := 5) (l := [7]) p1).ext q24).bytes
  have n2 : Bytes C4 (Sl.fresh C1.size 1) [7] := ((OwnR.mine (e := 5) (l := [7]) p2).ext q34).bytes
  have n3 : Bytes C4 (Sl.fresh C2.size 1) [8] := ((OwnR.mine (e := 5) (l := [8]) p3).ext q4).bytes
  have u4 : RowF Sl.val Sl.nil C4 (Sl.fresh C3.size 3) [Sl.fresh C0.size 1, Sl.fresh C1.size 1, Sl.fresh C2.size 1] := OwnR.rowF (f := Sl.val) (l := [Sl.fresh C0.size 1, Sl.fresh C1.size 1, Sl.fresh C2.size 1]) p4
  have uu : BRows C4 (Sl.fresh C3.size 3) [Sl.fresh C0.size 1, Sl.fresh C1.size 1, Sl.fresh C2.size 1] [[7], [7], [8]] := brows_of u4 rfl fun k hk => by
    have hk : k < 3 := hk
    match k, hk with
    | 0, _ => exact n1
    | 1, _ => exact n2
    | 2, _ => exact n3
  have hF5 := hF4.ext q04
  have b5 := b4.ext q04
  have x5 := x4.trans q04
  have ma5 := ma.ext q04
  have ow5 := ow.ext q04
  clear p0 p1 p2 p3 p4 n1 n2 n3 u4 q0 q1 q2 q3 q4 q34 q24 q14 q04 v0 v1 v2 v3 v4 b4 x4 hF4 ma ow
  refine go ?_
  refine RegS.call (open_ok fb 5 1 1 1 9 1 _ _ _ _ [[7], [7], [8]] C4 hF5 u0 uu (by decide) (by decide) (by omega) (by omega) (by omega) (by omega) (by omega) (by omega) (by omega) (by omega)) ?_
  rintro _ D2 ⟨d2, hr2⟩
  obtain ⟨hs2, qs2, a2, w2', f2, _⟩ | ⟨_, rfl⟩ := hr2
  · exact absurd f2 (kn_none _ _)
  have x6 := x5.trans d2
  have ma2 : Bytes D2 a1 [7] := (ma5.ext d2).bytes
  have ow2 : RowF I64 0 D2 w1' [2] := (OwnR.rowF (f := I64) (l := [2]) ow5).ext d2
  have hl2 : ([2] : List Nat).length = 1 := rfl
  clear uu u0 hF5 b5 x5 ma5 ow5 d2
  refine go ?_
  repeat (refine RegS.sp (fun _ => ?_) (fun h => absurd rfl h); refine go ?_)
  exact ret1 ⟨rfl, x6⟩
end Go.Proofs.Ytccgbgjhjpllcaa
