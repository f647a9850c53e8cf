/-
  The row of the law OpenOpens.
-/
import Derived.Test.YtccgbgjhjpllcaaVLaw11c
import Derived.Test.YtccgbgjhjpllcaaVcRow
set_option linter.unusedVariables false
set_option linter.unusedSimpArgs false
namespace Go.Proofs.Ytccgbgjhjpllcaa
open Go Go.Vc Go.ChangeShapes Go.WideShapes Go.ChangeAt Go.RowKit
namespace OpenOpens

theorem own : ownKnob Try.prog.godebug = none := by kernel_rfl
theorem laidOut : laidOutB Try.prog = true := by kernel_rfl
theorem ub : Try.prog.underlying 24 = some (.slice 5) := by kernel_rfl
theorem u5 : Try.prog.underlying 5 = some (.int .u8) := by kernel_rfl
theorem u3 : Try.prog.underlying 3 = some (.int .i64) := by kernel_rfl
theorem u4 : Try.prog.underlying 4 = some .bool := by kernel_rfl
theorem c5 : Try.prog.cellsOf 5 = 1 := by kernel_rfl
theorem b5 : Try.prog.bytesOf 5 = 1 := by kernel_rfl
theorem cb : Try.prog.cellsOf 24 = 1 := by kernel_rfl
noncomputable def pfs : Array Field := match Try.prog.underlying 23 with | some (.struct fs) => fs | _ => #[]
theorem np : pfs.size = 5 := by kernel_rfl
theorem up : Try.prog.underlying 23 = some (.struct pfs) := by kernel_rfl
theorem cp : Try.prog.cellsOf 23 = 5 := by kernel_rfl
theorem hop : ∀ (i : Nat) (f : Field), pfs[i]? = some f → f.offset = i ∧ Try.prog.cellsOf f.type = 1 := Go.Deep.hone_of (by kernel_rfl)
theorem tyb : (pfs.toList.all fun f => f.type == 3) = true := by kernel_rfl
theorem typ : ∀ (i : Nat) (f : Field), pfs[i]? = some f → Try.prog.underlying f.type = some (.int .i64) := fun i f h => by
  have := List.all_eq_true.1 tyb f (by rw [← Array.getElem?_toList] at h; exact List.mem_of_getElem? h)
  rw [beq_iff_eq] at this
  rw [this]; exact u3
theorem un : Try.prog.underlying 26 = some (.slice 3) := by kernel_rfl
theorem c3 : Try.prog.cellsOf 3 = 1 := by kernel_rfl
theorem b3 : Try.prog.bytesOf 3 = 8 := by kernel_rfl
theorem bb : Try.prog.bytesOf 24 = 24 := by kernel_rfl
theorem um : Try.prog.underlying 38 = some (.slice 24) := by kernel_rfl
theorem read_M : Try.prog.readableRec 38 = true ∧ 38 < Try.prog.types.size := ⟨by kernel_rfl, of_decide_eq_true (by kernel_rfl)⟩
theorem read_i : Try.prog.readableRec 3 = true ∧ 3 < Try.prog.types.size := ⟨by kernel_rfl, of_decide_eq_true (by kernel_rfl)⟩
theorem read_n : Try.prog.readableRec 26 = true ∧ 26 < Try.prog.types.size := ⟨by kernel_rfl, of_decide_eq_true (by kernel_rfl)⟩
theorem read_p : Try.prog.readableRec 23 = true ∧ 23 < Try.prog.types.size := ⟨by kernel_rfl, of_decide_eq_true (by kernel_rfl)⟩

set_option maxRecDepth 100000 in
theorem lifted (os : Os) (started : os.Started) (H : Type) (enc : TypeId × Value → H) :
    ReturnsInHanded {} Try.checked os 8 .any (Rows.openOpensSpec.pre6 enc Try.prog Try.f8 Rows.openOpensRow.domain false) (Rows.openOpensSpec.post enc Try.prog Try.f8 false true false false) := by
  refine returnsInHanded_of_change_sized (C := Try.checked) own started (by kernel_rfl) Try.func8
    (ChangeSpec.witness6 (enc := enc) (C := Try.checked) false ⟨#[], #[.agg #[.int .i64 0, .int .i64 0, .int .i64 0, .int .i64 0, .int .i64 0], .int .i64 0, .int .i64 0, .slice none 0 0, .slice none 0 0], []⟩ 8 (by kernel_rfl) (by kernel_rfl) (by kernel_rfl) (by kernel_rfl)) ?_
  intro W base args ds gs before hval0 hW hcnd hsz0 _
  have hsz : (DataW.weightsEach Try.prog (Try.f8.params.toList ++ Rows.openOpensSpec.plain.varTypes Try.prog) (ds ++ gs)).all (· ≤ reachBytes) = true := hsz0
  have hval : ∀ (j : Nat) t v, Try.f8.params[j]? = some t → args[j]? = some v → Value.okWide Try.prog W .any base t v := hval0
  have hW' := hW
  obtain ⟨p, q, hA0, hV, hbp, _, _⟩ := hW
  have hA : DataW.TrodAll enc Try.prog W 0 (fun _ => true) true Try.f8.params.toList args.toList ds p := hA0
  have hAk := hA
  obtain ⟨rfl, rfl⟩ := trodVars_none hV
  rw [show Try.f8.params = #[23, 3, 3, 26, 38] from rfl] at hA hval hsz
  obtain ⟨v0, v1, v2, v3, v4, d0, d1, d2, d3, d4, p0, p1, p2, p3, p4, rfl, rfl, rfl, h0, h1, h2, h3, h4⟩ := trodAll_five hA
  obtain ⟨N0, T0, K0, E0, R0, rfl, hp0⟩ := open_five up cp hop np typ (hval 0 23 v0 rfl rfl) h0
  obtain ⟨x1, rfl, rfl, rfl, w1⟩ := open_int u3 (hval 1 3 v1 rfl rfl) h1
  have hb1 := int_of w1
  obtain ⟨x2, rfl, rfl, rfl, w2⟩ := open_int u3 (hval 2 3 v2 rfl rfl) h2
  have hb2 := int_of w2
  obtain ⟨s3, l3, rfl, hb3, hl3⟩ := open_numbers un u3 c3 b3 (hval 3 26 v3 rfl rfl) h3 hsz (j := 3) rfl rfl
  obtain ⟨s4, t4, l4, rfl, hb4, hl4⟩ := open_brows8 um ub u5 cb c5 bb (okWide_slice um (hval 4 38 v4 rfl rfl)) h4 hsz (j := 4) rfl rfl
  refine ((openOpens_ok N0 T0 K0 E0 R0 s3 s4 t4 l3 l4 x1 x2 W.heap hb3 hb4 hl3 hl4 hb1 hb2 hp0).run W rfl).mono ?_
  rintro e W' ⟨v, rfl, hs, rfl, hx⟩
  exact ⟨_, rfl, law_post (b := 4) laidOut (by intro t ht; rcases List.mem_cons.1 ht with rfl | ht; exact read_p; rcases List.mem_cons.1 ht with rfl | ht; exact read_i; rcases List.mem_cons.1 ht with rfl | ht; exact read_i; rcases List.mem_cons.1 ht with rfl | ht; exact read_n; rcases List.mem_cons.1 ht with rfl | ht; exact read_M; cases ht) u4 rfl hW' hAk hbp (hx.below hs) rfl rfl rfl rfl⟩
end OpenOpens

theorem openOpens_holds : Rows.OpenOpensSaid :=
  OpenClaim.holds_of_wide 8 Try.f8 rfl rfl rfl rfl rfl rfl rfl ⟨rfl, rfl, rfl, rfl, rfl⟩ rfl rfl rfl rfl rfl (by kernel_rfl) Try.func8 (by kernel_rfl)
    (of_decide_eq_true (by kernel_rfl)) (by unfold Func.isWrapper; first | (rw [if_pos (by decide +kernel)]; kernel_rfl) | (rw [if_neg (by decide +kernel)]; exact ⟨rfl, rfl⟩))
    (fun os started H enc _ => OpenOpens.lifted os started H enc)
end Go.Proofs.Ytccgbgjhjpllcaa
