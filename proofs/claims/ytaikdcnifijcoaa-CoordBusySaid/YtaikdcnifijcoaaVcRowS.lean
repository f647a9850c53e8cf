/-
  From walks to rows, on: a step of a script opened.
-/
import Derived.Test.YtaikdcnifijcoaaVcRowU
import Derived.Test.YtaikdcnifijcoaaVCo
set_option linter.unusedVariables false
set_option linter.unusedSimpArgs false
namespace Go.Proofs.Ytaikdcnifijcoaa
open Go Go.Vc Go.ChangeShapes Go.WideShapes Go.ChangeAt Go.RowKit Go.Proofs.Ytaikdcnifijcoaa.Rows
section
variable {H : Type} {enc : TypeId × Value → H} {P : Program} {W : World}
/-- A step, in cells. -/
theorem cells_step {t tb : TypeId} {fs : Array Field} {fuel : Nat} {cs : List Value} {x : DataW H × List MemPlace} (hu : P.underlying t = some (.struct fs)) (hc : P.cellsOf t = 6)
    (hone : ∀ (i : Nat) (f : Field), fs[i]? = some f → f.offset = i ∧ P.cellsOf f.type = 1) (hn : fs.size = 6)
    (hi : ∀ i ∈ [0, 1, 2, 3], (fs[i]?.bind fun f => P.underlying f.type) = some (.int .i64)) (hid : (fs[4]?.bind fun f => P.underlying f.type) = some .string)
    (hda : (fs[5]?.bind fun f => P.underlying f.type) = some (.slice tb)) (ub : P.underlying tb = some (.int .u8)) (cb : P.cellsOf tb = 1)
    (h : DataW.trod enc P W 0 (fun _ => true) true fuel t cs = some x) :
    ∃ (y : StepA) (sd : Sl), cs = stepC y sd ∧ Bytes W.heap sd y.data := by
  obtain ⟨xs, n, _, rfl, hl, hxl, hfld⟩ := DataW.trod_struct hu h
  rw [hc] at hl
  have each : ∀ i (hi16 : i < 6), ∃ f, fs[i]? = some f ∧ DataW.trod enc P W 0 (fun _ => true) true n f.type [cs[i]] = some (xs[i]) := by
    intro i hi16
    have hfi : fs[i]? = some fs[i] := Array.getElem?_eq_getElem (by omega)
    obtain ⟨ho, hc1⟩ := hone i _ hfi
    have g := hfld i _ hfi
    rw [ho, hc1, Go.Deep.take1_drop cs i undef (by omega), List.getElem?_eq_getElem (by omega)] at g
    refine ⟨_, hfi, ?_⟩
    rw [← g]
    simp [List.getD_eq_getElem?_getD, List.getElem?_eq_getElem (show i < cs.length by omega)]
  have int : ∀ i (hi16 : i < 6), i ∈ [0, 1, 2, 3] → ∃ z : Int, cs[i] = IV z := fun i hi16 hm => by
    obtain ⟨f, hf, g⟩ := each i hi16
    have u := hi i hm
    rw [hf] at u
    obtain ⟨z, e1, _, _⟩ := DataW.trod_int u g
    exact ⟨z, by simpa using e1⟩
  obtain ⟨z0, e0⟩ := int 0 (by omega) (by simp)
  obtain ⟨z1, e1⟩ := int 1 (by omega) (by simp)
  obtain ⟨z2, e2⟩ := int 2 (by omega) (by simp)
  obtain ⟨z3, e3⟩ := int 3 (by omega) (by simp)
  obtain ⟨fi, hfi, gi⟩ := each 4 (by omega)
  rw [hfi] at hid
  obtain ⟨sid, e4, w4, _⟩ := DataW.trod_string hid gi
  obtain ⟨fa, hfa, ga⟩ := each 5 (by omega)
  rw [hfa] at hda
  obtain ⟨sa, la, e5, ra, ba⟩ := cells_bytes hda ub cb ga
  simp only [List.cons.injEq, and_true] at e4 e5
  refine ⟨⟨z0, z1, z2, z3, sid.data.toList, la⟩, sa, ?_, ra⟩
  refine List.ext_getElem? fun i => ?_
  have e4' : cs[4] = S sid.data.toList := e4
  match i with
  | 0 => rw [List.getElem?_eq_getElem (by omega), e0]; rfl
  | 1 => rw [List.getElem?_eq_getElem (by omega), e1]; rfl
  | 2 => rw [List.getElem?_eq_getElem (by omega), e2]; rfl
  | 3 => rw [List.getElem?_eq_getElem (by omega), e3]; rfl
  | 4 => rw [List.getElem?_eq_getElem (by omega), e4']; rfl
  | 5 => rw [List.getElem?_eq_getElem (by omega), e5]; rfl
  | k + 6 => rw [List.getElem?_eq_none (by omega)]; rfl
end
end Go.Proofs.Ytaikdcnifijcoaa
