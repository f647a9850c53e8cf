/-
  The row of the law BwNever.
-/
import Derived.Test.YthoabhcaliggoaaVLaws05b
import Derived.Test.YthoabhcaliggoaaVcRow5
set_option linter.unusedVariables false
set_option linter.unusedSimpArgs false
namespace Go.Proofs.Ythoabhcaliggoaa
open Go Go.Vc Go.ChangeShapes Go.WideShapes Go.ChangeAt Go.RowKit
namespace BwNever

theorem own : ownKnob Try.prog.godebug = none := by kernel_rfl
theorem laidOut : laidOutB Try.prog = true := by kernel_rfl
theorem ub : Try.prog.underlying 23 = some (.slice 5) := by kernel_rfl
theorem u5 : Try.prog.underlying 5 = some (.int .u8) := by kernel_rfl
theorem u3 : Try.prog.underlying 3 = some (.int .i64) := by kernel_rfl
theorem u4 : Try.prog.underlying 4 = some .bool := by kernel_rfl
theorem c5 : Try.prog.cellsOf 5 = 1 := by kernel_rfl
theorem b5 : Try.prog.bytesOf 5 = 1 := by kernel_rfl
theorem cb : Try.prog.cellsOf 23 = 1 := by kernel_rfl
theorem read_b : Try.prog.readableRec 23 = true ∧ 23 < Try.prog.types.size := ⟨by kernel_rfl, of_decide_eq_true (by kernel_rfl)⟩
theorem read_y : Try.prog.readableRec 5 = true ∧ 5 < Try.prog.types.size := ⟨by kernel_rfl, of_decide_eq_true (by kernel_rfl)⟩

set_option maxRecDepth 100000 in
theorem lifted (os : Os) (started : os.Started) (H : Type) (enc : TypeId × Value → H) :
    ReturnsInHanded {} Try.checked os 22 .any (Rows.bwNeverSpec.pre6 enc Try.prog Try.f22 Rows.bwNeverRow.domain false) (Rows.bwNeverSpec.post enc Try.prog Try.f22 false true false false) := by
  refine returnsInHanded_of_change_sized (C := Try.checked) own started (by kernel_rfl) Try.func22
    (ChangeSpec.witness6 (enc := enc) (C := Try.checked) false ⟨#[], #[.slice none 0 0, .slice none 0 0, .slice none 0 0, .int .u8 0, .int .u8 0], []⟩ 8 (by kernel_rfl) (by kernel_rfl) (by kernel_rfl) (by kernel_rfl)) ?_
  intro W base args ds gs before hval0 hW hcnd hsz0 _
  have hsz : (DataW.weightsEach Try.prog (Try.f22.params.toList ++ Rows.bwNeverSpec.plain.varTypes Try.prog) (ds ++ gs)).all (· ≤ reachBytes) = true := hsz0
  have hval : ∀ (j : Nat) t v, Try.f22.params[j]? = some t → args[j]? = some v → Value.okWide Try.prog W .any base t v := hval0
  have hW' := hW
  obtain ⟨p, q, hA0, hV, hbp, _, _⟩ := hW
  have hA : DataW.TrodAll enc Try.prog W 0 (fun _ => true) true Try.f22.params.toList args.toList ds p := hA0
  have hAk := hA
  obtain ⟨rfl, rfl⟩ := trodVars_none hV
  rw [show Try.f22.params = #[23, 23, 23, 5, 5] from rfl] at hA hval hsz
  obtain ⟨v0, v1, v2, v3, v4, d0, d1, d2, d3, d4, p0, p1, p2, p3, p4, rfl, rfl, rfl, h0, h1, h2, h3, h4⟩ := trodAll_five hA
  obtain ⟨s0, l0, rfl, hb0, hl0⟩ := open_bytes ub u5 c5 b5 (hval 0 23 v0 rfl rfl) h0 hsz (j := 0) rfl rfl
  obtain ⟨s1, l1, rfl, hb1, hl1⟩ := open_bytes ub u5 c5 b5 (hval 1 23 v1 rfl rfl) h1 hsz (j := 1) rfl rfl
  obtain ⟨s2, l2, rfl, hb2, hl2⟩ := open_bytes ub u5 c5 b5 (hval 2 23 v2 rfl rfl) h2 hsz (j := 2) rfl rfl
  obtain ⟨n3, rfl, rfl, rfl, w3⟩ := open_int u5 (hval 3 5 v3 rfl rfl) h3
  obtain ⟨x3, rfl⟩ := byte_of w3
  obtain ⟨n4, rfl, rfl, rfl, w4⟩ := open_int u5 (hval 4 5 v4 rfl rfl) h4
  obtain ⟨x4, rfl⟩ := byte_of w4
  refine ((bwNever_ok s0 s1 s2 l0 l1 l2 x3 x4 W.heap hb0 hb1 hb2 hl0 hl1 hl2 ).run W rfl).mono ?_
  rintro e W' ⟨v, rfl, hs, rfl, hx⟩
  exact ⟨_, rfl, law_post (b := 4) laidOut (by intro t ht; rcases List.mem_cons.1 ht with rfl | ht; exact read_b; rcases List.mem_cons.1 ht with rfl | ht; exact read_b; rcases List.mem_cons.1 ht with rfl | ht; exact read_b; rcases List.mem_cons.1 ht with rfl | ht; exact read_y; rcases List.mem_cons.1 ht with rfl | ht; exact read_y; cases ht) u4 rfl hW' hAk hbp (hx.below hs) rfl rfl rfl rfl⟩
end BwNever

theorem bwNever_holds : Rows.BwNeverSaid :=
  OpenClaim.holds_of_wide 22 Try.f22 rfl rfl rfl rfl rfl rfl rfl ⟨rfl, rfl, rfl, rfl, rfl⟩ rfl rfl rfl rfl rfl (by kernel_rfl) Try.func22 (by kernel_rfl)
    (of_decide_eq_true (by kernel_rfl)) (by unfold Func.isWrapper; first | (rw [if_pos (by decide +kernel)]; kernel_rfl) | (rw [if_neg (by decide +kernel)]; exact ⟨rfl, rfl⟩))
    (fun os started H enc _ => BwNever.lifted os started H enc)
end Go.Proofs.Ythoabhcaliggoaa
