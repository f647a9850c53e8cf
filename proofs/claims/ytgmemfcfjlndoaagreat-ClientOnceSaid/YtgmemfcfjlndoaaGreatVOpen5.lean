/-
  The laws of layer 11, walked: params, known answers.
-/
import Derived.Test.YtgmemfcfjlndoaaGreatVOpen4
set_option linter.unusedVariables false
set_option linter.unusedSimpArgs false
namespace Go.Proofs.YtgmemfcfjlndoaaGreat
open Go Go.Vc Go.Gf

abbrev pmI (N T K E R : Int) : Value := .agg #[IV N, IV T, IV K, IV E, IV R]
def GoodP (N T K E R : Int) : Prop := (∀ k, k < 4 → 0 ≤ [N, T, K, E].getD k 0 ∧ [N, T, K, E].getD k 0 ≤ 255) ∧ 1 ≤ T ∧ 1 ≤ K ∧ 1 ≤ R ∧ R ≤ 512 ∧ T + K + 2 * E ≤ N ∧ N + K ≤ 255
set_option maxHeartbeats 4000000 in
theorem good_ok (N T K E R : Int) (H : Heap) : CallsH Tryz.prog 10 [pmI N T K E R] H fun v H' => v = .bool (dec (GoodP N T K E R)) ∧ Ext H H' := by
  refine CallsH.enter h10 Tryz.func10 rfl rfl rfl (by decide) fun u => go ?_
  refine RegS.boxA fun H0 x0 z0 b0 => ?_
  refine go ?_
  refine RegS.buildSlice fun H1 o1 x1 w1 => ?_
  have b1 := b0.ext x1
  have r1 : RowF IV 0 H1 (Sl.fresh H0.size 4) [N, T, K, E] := OwnR.rowF (f := IV) (l := [N, T, K, E]) o1
  have x01 := x0.trans x1
  have no : ¬ GoodP N T K E R → (Value.bool false = Value.bool (dec (GoodP N T K E R)) ∧ Ext H H1) := fun h => ⟨by rw [dec_neg h], x01⟩
  refine go ?_
  refine Wp.loop (ι := Nat) (fun i => [(1, .pointer (some ⟨H.size, 0, none⟩)), (13, (Sl.fresh H0.size 4).val), (14, I64 4), (15, I64 i)]) (fun i A => i ≤ 4 ∧ (∀ k, k < i → 0 ≤ [N, T, K, E].getD k 0 ∧ [N, T, K, E].getD k 0 ≤ 255) ∧ H1 = A) (fun i => 4 - i) 0 subs ⟨by omega, fun k h => absurd h (by omega), rfl⟩ ?_
  rintro i _ ⟨hi, hall, rfl⟩
  have hlen : [N, T, K, E].length = 4 := rfl
  refine go ?_
  refine Wp.br (fun h => ?_) (fun h => ?_)
  · have h : (i : Int) < ((4 : Nat) : Int) := h
    refine go ?_
    refine RegS.sp (fun h1 => ?_) (fun h1 => ?_) <;> refine go ?_
    · exact ret1 (no fun k => by have := (k.1 i (by omega)).1; omega)
    refine Wp.br (fun h2 => ?_) (fun h2 => ?_) <;> refine go ?_
    · exact ret1 (no fun k => by have := (k.1 i (by omega)).2; omega)
    refine roundQ_n (i + 1) subs ⟨by omega, fun k hk => ?_, rfl⟩ (by omega)
    by_cases e : k = i
    · subst e; omega
    · exact hall k (by omega)
  have h : ¬ (i : Int) < ((4 : Nat) : Int) := h
  have : i = 4 := by omega
  subst this
  have g0 := hall 0 (by omega)
  have g1 := hall 1 (by omega)
  have g2 := hall 2 (by omega)
  have g3 := hall 3 (by omega)
  simp only [List.getD_cons_zero, List.getD_cons_succ] at g0 g1 g2 g3
  obtain ⟨n, rfl⟩ := Int.eq_ofNat_of_zero_le g0.1
  obtain ⟨t, rfl⟩ := Int.eq_ofNat_of_zero_le g1.1
  obtain ⟨k, rfl⟩ := Int.eq_ofNat_of_zero_le g2.1
  obtain ⟨e, rfl⟩ := Int.eq_ofNat_of_zero_le g3.1
  refine go ?_
  refine RegS.sp (fun c1 => ?_) (fun c1 => ?_) <;> refine go ?_
  case _ =>
    refine RegS.sp (fun c2 => ?_) (fun c2 => ?_) <;> refine go ?_
    · refine RegS.sp (fun c3 => ?_) (fun c3 => ?_) <;> refine go ?_
      · refine RegS.sp (fun c4 => ?_) (fun c4 => ?_) <;> refine go ?_
        · refine RegS.sp (fun c5 => ?_) (fun c5 => ?_) <;> refine go ?_
          · refine ret1 ⟨?_, x01⟩
            refine congrArg _ (dec_congr ⟨fun h6 => ⟨hall, by omega, by omega, by omega, by omega, by omega, by omega⟩, fun h6 => ?_⟩)
            have := h6.2.2.2.2.2.2; omega
          · exact ret1 (no fun h6 => by have := h6.2.2.2.2.2.1; omega)
        · exact ret1 (no fun h6 => by have := h6.2.2.2.2.1; omega)
      · exact ret1 (no fun h6 => by have := h6.2.2.2.1; omega)
    · exact ret1 (no fun h6 => by have := h6.2.2.1; omega)
  · exact ret1 (no fun h6 => by have := h6.2.1; omega)
end Go.Proofs.YtgmemfcfjlndoaaGreat
