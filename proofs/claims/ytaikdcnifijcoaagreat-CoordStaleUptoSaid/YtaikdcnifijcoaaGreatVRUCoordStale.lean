/-
  The row of the law CoordStale, where what comes in is of bulk at most 1048576.
-/
import Derived.Test.YtaikdcnifijcoaaGreatVLaw21e
import Derived.Test.YtaikdcnifijcoaaGreatVcRowU
import Derived.Test.YtaikdcnifijcoaaGreatVcRowS
import Derived.JoinedCond
set_option linter.unusedVariables false
set_option linter.unusedSimpArgs false
namespace Go.Proofs.YtaikdcnifijcoaaGreat
open Go Go.Vc Go.ChangeShapes Go.WideShapes Go.ChangeAt Go.RowKit
namespace CoordStale

theorem own : ownKnob Tryz.prog.godebug = none := by kernel_rfl
theorem laidOut : laidOutB Tryz.prog = true := by kernel_rfl
theorem ub : Tryz.prog.underlying 36 = some (.slice 5) := by kernel_rfl
theorem u5 : Tryz.prog.underlying 5 = some (.int .u8) := by kernel_rfl
theorem u3 : Tryz.prog.underlying 3 = some (.int .i64) := by kernel_rfl
theorem u4 : Tryz.prog.underlying 4 = some .bool := by kernel_rfl
theorem c5 : Tryz.prog.cellsOf 5 = 1 := by kernel_rfl
theorem c3 : Tryz.prog.cellsOf 3 = 1 := by kernel_rfl
noncomputable def pfs : Array Field := match Tryz.prog.underlying 23 with | some (.struct fs) => fs | _ => #[]
theorem np : pfs.size = 5 := by kernel_rfl
theorem up : Tryz.prog.underlying 23 = some (.struct pfs) := by kernel_rfl
theorem cp : Tryz.prog.cellsOf 23 = 5 := by kernel_rfl
theorem hop : ∀ (i : Nat) (f : Field), pfs[i]? = some f → f.offset = i ∧ Tryz.prog.cellsOf f.type = 1 := Go.Deep.hone_of (by kernel_rfl)
theorem tyb : (pfs.toList.all fun f => f.type == 3) = true := by kernel_rfl
theorem typ : ∀ (i : Nat) (f : Field), pfs[i]? = some f → Tryz.prog.underlying f.type = some (.int .i64) := fun i f h => by
  have := List.all_eq_true.1 tyb f (by rw [← Array.getElem?_toList] at h; exact List.mem_of_getElem? h)
  rw [beq_iff_eq] at this
  rw [this]; exact u3
noncomputable def mfs : Array Field := match Tryz.prog.underlying 38 with | some (.struct fs) => fs | _ => #[]
noncomputable def hfs : List Field := match Tryz.prog.underlying 79 with | some (.struct fs) => fs.toList | _ => []
theorem ofHead : Tryz.prog.underlying 79 = some (.struct #[hfs.getD 0 default, hfs.getD 1 default]) := by kernel_rfl
theorem ofMsg : Tryz.prog.underlying 38 = some (.struct mfs) := by kernel_rfl
theorem msgInts : ∀ i ∈ [0, 1, 2, 3, 4, 5, 6, 9, 10, 11, 14], (mfs[i]?.bind fun f => Tryz.prog.underlying f.type) = some (.int .i64) := by
  intro i hi
  simp only [List.mem_cons, List.not_mem_nil, or_false] at hi
  rcases hi with rfl | rfl | rfl | rfl | rfl | rfl | rfl | rfl | rfl | rfl | rfl <;> kernel_rfl
theorem cells_msg' {H : Type} {enc : TypeId × Value → H} {W : World} {fuel : Nat} {cs : List Value} {x : DataW H × List MemPlace} (h : DataW.trod enc Tryz.prog W 0 (fun _ => true) true fuel 38 cs = some x) :
    ∃ (m : MsgA) (s : MsgS), cs = msgC m s ∧ MsgIn W.heap m s ∧ (Rows.uptoBulk x.1 ≤ 1048576 → MsgFit m) ∧ m.data.length ≤ Rows.uptoBulk x.1 :=
  cells_msg (th := 33) (eh := 79) (ti := 3) (tb := 5) ofMsg (by kernel_rfl) (Go.Deep.hone_of (by kernel_rfl)) (by kernel_rfl) msgInts (by kernel_rfl) (by kernel_rfl) (by kernel_rfl) (by kernel_rfl) (by kernel_rfl)
    ofHead (by kernel_rfl) (by kernel_rfl) (by kernel_rfl) (by kernel_rfl) (by kernel_rfl) (by kernel_rfl) (by kernel_rfl) u3 c3 u5 c5 h
set_option maxRecDepth 100000 in
theorem open_msg {H : Type} {enc : TypeId × Value → H} {W : World} {r : Reach} {base : Nat} {v : Value} {d : DataW H} {ps : List MemPlace} (hv : Value.okWide Tryz.prog W r base 38 v) (h : DataW.Trod enc Tryz.prog W 0 (fun _ => true) true 38 v d ps) :
    ∃ (m : MsgA) (s : MsgS), v = .agg (msgC m s).toArray ∧ MsgIn W.heap m s ∧ (Rows.uptoBulk d ≤ 1048576 → MsgFit m) := by
  have hv2 := okWide_agg (t := 38) (P := Tryz.prog) (W := W) (r := r) (base := base) (v := v) ofMsg hv
  obtain ⟨cs, rfl⟩ := hv2
  obtain ⟨fuel, hf⟩ := h
  obtain ⟨m, s, e, hm, hfit, _⟩ := cells_msg' hf
  have e' : cs.toList = msgC m s := e
  exact ⟨m, s, by rw [← e'], hm, hfit⟩
theorem read_g : Tryz.prog.readableRec 38 = true ∧ 38 < Tryz.prog.types.size := ⟨by kernel_rfl, of_decide_eq_true (by kernel_rfl)⟩
theorem read_p : Tryz.prog.readableRec 23 = true ∧ 23 < Tryz.prog.types.size := ⟨by kernel_rfl, of_decide_eq_true (by kernel_rfl)⟩
theorem read_x : Tryz.prog.readableRec 47 = true ∧ 47 < Tryz.prog.types.size := ⟨by kernel_rfl, of_decide_eq_true (by kernel_rfl)⟩
noncomputable def sfs : Array Field := match Tryz.prog.underlying 47 with | some (.struct fs) => fs | _ => #[]
theorem ofStep : Tryz.prog.underlying 47 = some (.struct sfs) := by kernel_rfl
theorem stepInts : ∀ i ∈ [0, 1, 2, 3], (sfs[i]?.bind fun f => Tryz.prog.underlying f.type) = some (.int .i64) := by
  intro i hi
  simp only [List.mem_cons, List.not_mem_nil, or_false] at hi
  rcases hi with rfl | rfl | rfl | rfl <;> kernel_rfl
set_option maxRecDepth 100000 in
theorem open_step {H : Type} {enc : TypeId × Value → H} {W : World} {r : Reach} {base : Nat} {v : Value} {d : DataW H} {ps : List MemPlace} (hv : Value.okWide Tryz.prog W r base 47 v) (h : DataW.Trod enc Tryz.prog W 0 (fun _ => true) true 47 v d ps) :
    ∃ (y : StepA) (sd : Sl), v = .agg (stepC y sd).toArray ∧ Bytes W.heap sd y.data := by
  have hv2 := okWide_agg (t := 47) (P := Tryz.prog) (W := W) (r := r) (base := base) (v := v) ofStep hv
  obtain ⟨cs, rfl⟩ := hv2
  obtain ⟨fuel, hf⟩ := h
  obtain ⟨y, sd, e, hb⟩ := cells_step (tb := 5) ofStep (by kernel_rfl) (Go.Deep.hone_of (by kernel_rfl)) (by kernel_rfl) stepInts (by kernel_rfl) (by kernel_rfl) u5 c5 hf
  have e' : cs.toList = stepC y sd := e
  exact ⟨y, sd, by rw [← e'], hb⟩

set_option maxRecDepth 100000 in
theorem lifted (os : Os) (started : os.Started) (H : Type) (enc : TypeId × Value → H) (F : Stop.Interp) :
    ReturnsInHanded {} Tryz.checked os 6 .any ((Rows.OpenSpec.upto Rows.coordStaleSpec).pre6 enc Tryz.prog Tryz.f6 Rows.coordStaleUptoRow.domain false) (((Rows.OpenSpec.upto Rows.coordStaleSpec).at F).post enc Tryz.prog Tryz.f6 false true false false) := by
  refine returnsInHanded_of_cond (C := Tryz.checked) (s := Rows.OpenSpec.upto Rows.coordStaleSpec) (k := Rows.uptoSmall) rfl own started (by kernel_rfl) Tryz.func6
    (OpenSpec.witness (enc := enc) (C := Tryz.checked) (s := Rows.OpenSpec.upto Rows.coordStaleSpec) (k := Rows.uptoSmall) rfl false ⟨#[], #[.agg #[.int .i64 0, .int .i64 0, .int .i64 0, .int .i64 0, .int .i64 0], .agg #[.int .i64 0, .int .i64 0, .int .i64 0, .int .i64 0, .string .empty, .slice none 0 0], .agg #[.int .i64 0, .int .i64 0, .int .i64 0, .int .i64 0, .int .i64 0, .int .i64 0, .int .i64 0, .slice none 0 0, .string .empty, .int .i64 0, .int .i64 0, .int .i64 0, .slice none 0 0, .slice none 0 0, .int .i64 0, .slice none 0 0]], []⟩ 8 (by kernel_rfl) (by kernel_rfl) (by kernel_rfl)
      (x := ([.agg [.lit (.int .i64 0), .lit (.int .i64 0), .lit (.int .i64 0), .lit (.int .i64 0), .lit (.int .i64 0)], .agg [.lit (.int .i64 0), .lit (.int .i64 0), .lit (.int .i64 0), .lit (.int .i64 0), .lit (.string []), .nil], .agg [.lit (.int .i64 0), .lit (.int .i64 0), .lit (.int .i64 0), .lit (.int .i64 0), .lit (.int .i64 0), .lit (.int .i64 0), .lit (.int .i64 0), .nil, .lit (.string []), .lit (.int .i64 0), .lit (.int .i64 0), .lit (.int .i64 0), .nil, .nil, .lit (.int .i64 0), .nil]], [], [])) (by kernel_rfl) rfl (by kernel_rfl)) ?_
  intro W base args ds gs before hval0 hW _ hk _
  have hval : ∀ (j : Nat) t v, Tryz.f6.params[j]? = some t → args[j]? = some v → Value.okWide Tryz.prog W .any base t v := hval0
  have hW' := hW
  obtain ⟨p, q, hA0, hV, hbp, _, _⟩ := hW
  have hA : DataW.TrodAll enc Tryz.prog W 0 (fun _ => true) true Tryz.f6.params.toList args.toList ds p := hA0
  have hAk := hA
  obtain ⟨rfl, rfl⟩ := trodVars_none hV
  rw [show Tryz.f6.params = #[23, 47, 38] from rfl] at hA hval
  obtain ⟨v0, vs0, d0, ds0, p0, q0, a0, rfl, rfl, h0, r0⟩ := trodAll_cons hA
  obtain ⟨v1, vs1, d1, ds1, p1, q1, a1, rfl, rfl, h1, r1⟩ := trodAll_cons r0
  obtain ⟨v2, vs2, d2, ds2, p2, q2, a2, rfl, rfl, h2, r2⟩ := trodAll_cons r1
  obtain ⟨rfl, rfl, rfl⟩ := trodAll_nil r2
  obtain rfl : args = #[v0, v1, v2] := by cases args; simp_all
  have hbulk : Rows.uptoBulkAll ([d0, d1, d2] ++ ([] : List (DataW H))) ≤ 1048576 := of_decide_eq_true hk
  simp only [List.append_nil, Rows.uptoBulkAll] at hbulk
  obtain ⟨N0, T0, K0, E0, R0, rfl, hp0⟩ := open_five up cp hop np typ (hval 0 23 v0 rfl rfl) h0
  obtain ⟨x1, t1, rfl, hb1⟩ := open_step (hval 1 47 v1 rfl rfl) h1
  obtain ⟨m2, t2, rfl, hm2, hf2⟩ := open_msg (hval 2 38 v2 rfl rfl) h2
  refine ((coordStale_ok N0 T0 K0 E0 R0 t1 t2 x1 m2 W.heap hb1 hm2 (hf2 (by omega))).run W rfl).mono ?_
  rintro e W' ⟨v, rfl, hs, rfl, hx⟩
  exact ⟨_, rfl, law_post (b := 4) laidOut (by intro t ht; rcases List.mem_cons.1 ht with rfl | ht; exact read_p; rcases List.mem_cons.1 ht with rfl | ht; exact read_x; rcases List.mem_cons.1 ht with rfl | ht; exact read_g; cases ht) u4 rfl hW' hAk hbp (hx.below hs) rfl rfl rfl rfl⟩
end CoordStale

theorem coordStaleUpto_holds : Rows.CoordStaleUptoSaid :=
  OpenClaim.holds_of_cond 6 Tryz.f6 rfl rfl rfl rfl rfl rfl rfl ⟨rfl, rfl, rfl, rfl, rfl⟩ rfl rfl rfl rfl rfl (by kernel_rfl) Tryz.func6 (by kernel_rfl)
    (of_decide_eq_true (by kernel_rfl)) (by unfold Func.isWrapper; first | (rw [if_pos (by decide +kernel)]; kernel_rfl) | (rw [if_neg (by decide +kernel)]; exact ⟨rfl, rfl⟩))
    (fun os started H enc _ F => CoordStale.lifted os started H enc F)
end Go.Proofs.YtaikdcnifijcoaaGreat
