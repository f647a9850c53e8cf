/-
  The row of the law CoordNone.
-/
import Derived.Test.YtaikdcnifijcoaaGreatVLaw21b
import Derived.Test.YtaikdcnifijcoaaGreatVcRowU
import Derived.Test.YtaikdcnifijcoaaGreatVcRowS
set_option linter.unusedVariables false
set_option linter.unusedSimpArgs false
namespace Go.Proofs.YtaikdcnifijcoaaGreat
open Go Go.Vc Go.ChangeShapes Go.WideShapes Go.ChangeAt Go.RowKit
namespace CoordNone

theorem own : ownKnob Tryz.prog.godebug = none := by kernel_rfl
theorem laidOut : laidOutB Tryz.prog = true := by kernel_rfl
theorem ub : Tryz.prog.underlying 36 = some (.slice 5) := by kernel_rfl
theorem u5 : Tryz.prog.underlying 5 = some (.int .u8) := by kernel_rfl
theorem u3 : Tryz.prog.underlying 3 = some (.int .i64) := by kernel_rfl
theorem u4 : Tryz.prog.underlying 4 = some .bool := by kernel_rfl
theorem c5 : Tryz.prog.cellsOf 5 = 1 := by kernel_rfl
theorem b5 : Tryz.prog.bytesOf 5 = 1 := by kernel_rfl
theorem cb : Tryz.prog.cellsOf 36 = 1 := by kernel_rfl
theorem c3 : Tryz.prog.cellsOf 3 = 1 := by kernel_rfl
noncomputable def mfs : Array Field := match Tryz.prog.underlying 38 with | some (.struct fs) => fs | _ => #[]
noncomputable def hfs : List Field := match Tryz.prog.underlying 79 with | some (.struct fs) => fs.toList | _ => []
theorem ofHead : Tryz.prog.underlying 79 = some (.struct #[hfs.getD 0 default, hfs.getD 1 default]) := by kernel_rfl
theorem ofMsg : Tryz.prog.underlying 38 = some (.struct mfs) := by kernel_rfl
theorem msgInts : ∀ i ∈ [0, 1, 2, 3, 4, 5, 6, 9, 10, 11, 14], (mfs[i]?.bind fun f => Tryz.prog.underlying f.type) = some (.int .i64) := by
  intro i hi
  simp only [List.mem_cons, List.not_mem_nil, or_false] at hi
  rcases hi with rfl | rfl | rfl | rfl | rfl | rfl | rfl | rfl | rfl | rfl | rfl <;> kernel_rfl
theorem cells_msg' {H : Type} {enc : TypeId × Value → H} {W : World} {fuel : Nat} {cs : List Value} {x : DataW H × List MemPlace} (h : DataW.trod enc Tryz.prog W 0 (fun _ => true) true fuel 38 cs = some x) :
    ∃ (m : MsgA) (s : MsgS), cs = msgC m s ∧ MsgIn W.heap m s ∧ (Rows.uptoBulk x.1 ≤ 1048576 → MsgFit m) ∧ m.data.length ≤ Rows.uptoBulk x.1 :=
  cells_msg (th := 33) (eh := 79) (ti := 3) (tb := 5) ofMsg (by kernel_rfl) (Go.Deep.hone_of (by kernel_rfl)) (by kernel_rfl) msgInts (by kernel_rfl) (by kernel_rfl) (by kernel_rfl) (by kernel_rfl) (by kernel_rfl)
    ofHead (by kernel_rfl) (by kernel_rfl) (by kernel_rfl) (by kernel_rfl) (by kernel_rfl) (by kernel_rfl) (by kernel_rfl) u3 c3 u5 c5 h
set_option maxRecDepth 100000 in
theorem open_msg {H : Type} {enc : TypeId × Value → H} {W : World} {r : Reach} {base : Nat} {v : Value} {d : DataW H} {ps : List MemPlace} (hv : Value.okWide Tryz.prog W r base 38 v) (h : DataW.Trod enc Tryz.prog W 0 (fun _ => true) true 38 v d ps) :
    ∃ (m : MsgA) (s : MsgS), v = .agg (msgC m s).toArray ∧ MsgIn W.heap m s ∧ (Rows.uptoBulk d ≤ 1048576 → MsgFit m) := by
  have hv2 := okWide_agg (t := 38) (P := Tryz.prog) (W := W) (r := r) (base := base) (v := v) ofMsg hv
  obtain ⟨cs, rfl⟩ := hv2
  obtain ⟨fuel, hf⟩ := h
  obtain ⟨m, s, e, hm, hfit, _⟩ := cells_msg' hf
  have e' : cs.toList = msgC m s := e
  exact ⟨m, s, by rw [← e'], hm, hfit⟩
theorem ue : Tryz.prog.underlying 35 = some (.int .i64) := by kernel_rfl
noncomputable def sfs : Array Field := match Tryz.prog.underlying 47 with | some (.struct fs) => fs | _ => #[]
theorem ofStep : Tryz.prog.underlying 47 = some (.struct sfs) := by kernel_rfl
theorem stepInts : ∀ i ∈ [0, 1, 2, 3], (sfs[i]?.bind fun f => Tryz.prog.underlying f.type) = some (.int .i64) := by
  intro i hi
  simp only [List.mem_cons, List.not_mem_nil, or_false] at hi
  rcases hi with rfl | rfl | rfl | rfl <;> kernel_rfl
set_option maxRecDepth 100000 in
theorem open_step {H : Type} {enc : TypeId × Value → H} {W : World} {r : Reach} {base : Nat} {v : Value} {d : DataW H} {ps : List MemPlace} (hv : Value.okWide Tryz.prog W r base 47 v) (h : DataW.Trod enc Tryz.prog W 0 (fun _ => true) true 47 v d ps) :
    ∃ (y : StepA) (sd : Sl), v = .agg (stepC y sd).toArray ∧ Bytes W.heap sd y.data := by
  have hv2 := okWide_agg (t := 47) (P := Tryz.prog) (W := W) (r := r) (base := base) (v := v) ofStep hv
  obtain ⟨cs, rfl⟩ := hv2
  obtain ⟨fuel, hf⟩ := h
  obtain ⟨y, sd, e, hb⟩ := cells_step (tb := 5) ofStep (by kernel_rfl) (Go.Deep.hone_of (by kernel_rfl)) (by kernel_rfl) stepInts (by kernel_rfl) (by kernel_rfl) u5 c5 hf
  have e' : cs.toList = stepC y sd := e
  exact ⟨y, sd, by rw [← e'], hb⟩
theorem read_e : Tryz.prog.readableRec 35 = true ∧ 35 < Tryz.prog.types.size := ⟨by kernel_rfl, of_decide_eq_true (by kernel_rfl)⟩
theorem read_g : Tryz.prog.readableRec 38 = true ∧ 38 < Tryz.prog.types.size := ⟨by kernel_rfl, of_decide_eq_true (by kernel_rfl)⟩
theorem read_x : Tryz.prog.readableRec 47 = true ∧ 47 < Tryz.prog.types.size := ⟨by kernel_rfl, of_decide_eq_true (by kernel_rfl)⟩

set_option maxRecDepth 100000 in
theorem lifted (os : Os) (started : os.Started) (H : Type) (enc : TypeId × Value → H) :
    ReturnsInHanded {} Tryz.checked os 8 .any (Rows.coordNoneSpec.pre6 enc Tryz.prog Tryz.f8 Rows.coordNoneRow.domain false) (Rows.coordNoneSpec.post enc Tryz.prog Tryz.f8 false true false false) := by
  refine returnsInHanded_of_change_sized (C := Tryz.checked) own started (by kernel_rfl) Tryz.func8
    (ChangeSpec.witness6 (enc := enc) (C := Tryz.checked) false ⟨#[], #[.agg #[.int .i64 0, .int .i64 0, .int .i64 0, .int .i64 0, .string .empty, .slice none 0 0], .agg #[.int .i64 0, .int .i64 0, .int .i64 0, .int .i64 0, .int .i64 0, .int .i64 0, .int .i64 0, .slice none 0 0, .string .empty, .int .i64 0, .int .i64 0, .int .i64 0, .slice none 0 0, .slice none 0 0, .int .i64 0, .slice none 0 0], .int .i64 0], []⟩ 8 (by kernel_rfl) (by kernel_rfl) (by kernel_rfl) (by kernel_rfl)) ?_
  intro W base args ds gs before hval0 hW hcnd hsz0 _
  have hsz : (DataW.weightsEach Tryz.prog (Tryz.f8.params.toList ++ Rows.coordNoneSpec.plain.varTypes Tryz.prog) (ds ++ gs)).all (· ≤ reachBytes) = true := hsz0
  have hval : ∀ (j : Nat) t v, Tryz.f8.params[j]? = some t → args[j]? = some v → Value.okWide Tryz.prog W .any base t v := hval0
  have hW' := hW
  obtain ⟨p, q, hA0, hV, hbp, _, _⟩ := hW
  have hA : DataW.TrodAll enc Tryz.prog W 0 (fun _ => true) true Tryz.f8.params.toList args.toList ds p := hA0
  have hAk := hA
  obtain ⟨rfl, rfl⟩ := trodVars_none hV
  rw [show Tryz.f8.params = #[47, 38, 35] from rfl] at hA hval hsz

  obtain ⟨v0, v1, v2, d0, d1, d2, p0, p1, p2, rfl, rfl, rfl, h0, h1, h2⟩ := trodAll_three hA
  obtain ⟨x0, t0, rfl, hb0⟩ := open_step (hval 0 47 v0 rfl rfl) h0
  obtain ⟨m1, t1, rfl, hb1, _⟩ := open_msg (hval 1 38 v1 rfl rfl) h1
  obtain ⟨x2, rfl, rfl, rfl, w2⟩ := open_int ue (hval 2 35 v2 rfl rfl) h2
  have hb2 := int_of w2
  refine ((coordNone_ok t0 t1  x0 m1 x2 W.heap hb0 hb1  hb2 ).run W rfl).mono ?_
  rintro e W' ⟨v, rfl, hs, rfl, hx⟩
  exact ⟨_, rfl, law_post (b := 4) laidOut (by intro t ht; rcases List.mem_cons.1 ht with rfl | ht; exact read_x; rcases List.mem_cons.1 ht with rfl | ht; exact read_g; rcases List.mem_cons.1 ht with rfl | ht; exact read_e; cases ht) u4 rfl hW' hAk hbp (hx.below hs) rfl rfl rfl rfl⟩
end CoordNone

theorem coordNone_holds : Rows.CoordNoneSaid :=
  OpenClaim.holds_of_wide 8 Tryz.f8 rfl rfl rfl rfl rfl rfl rfl ⟨rfl, rfl, rfl, rfl, rfl⟩ rfl rfl rfl rfl rfl (by kernel_rfl) Tryz.func8 (by kernel_rfl)
    (of_decide_eq_true (by kernel_rfl)) (by unfold Func.isWrapper; first | (rw [if_pos (by decide +kernel)]; kernel_rfl) | (rw [if_neg (by decide +kernel)]; exact ⟨rfl, rfl⟩))
    (fun os started H enc _ => CoordNone.lifted os started H enc)
end Go.Proofs.YtaikdcnifijcoaaGreat
