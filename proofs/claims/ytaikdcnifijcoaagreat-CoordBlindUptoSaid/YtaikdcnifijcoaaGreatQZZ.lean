/-
  The row of the law CoordBlind, where what comes in is of bulk at most 1048576.
-/
import Derived.Test.YtaikdcnifijcoaaGreatQ48
import Derived.Test.YtaikdcnifijcoaaGreatQ49
import Derived.JoinedCond
set_option linter.unusedVariables false
set_option linter.unusedSimpArgs false
namespace Go.Proofs.YtaikdcnifijcoaaGreat
open Go Go.Vc Go.ChangeShapes Go.WideShapes Go.ChangeAt Go.RowKit
namespace CoordBlind
theorem own : ownKnob Tryz.prog.godebug = none := by kernel_rfl
theorem laidOut : laidOutB Tryz.prog = true := by kernel_rfl
theorem ub : Tryz.prog.underlying 36 = some (.slice 5) := by kernel_rfl
theorem u5 : Tryz.prog.underlying 5 = some (.int .u8) := by kernel_rfl
theorem u3 : Tryz.prog.underlying 3 = some (.int .i64) := by kernel_rfl
theorem u4 : Tryz.prog.underlying 4 = some .bool := by kernel_rfl
theorem c5 : Tryz.prog.cellsOf 5 = 1 := by kernel_rfl
theorem c3 : Tryz.prog.cellsOf 3 = 1 := by kernel_rfl
noncomputable def pfs : Array Field := match Tryz.prog.underlying 23 with | some (.struct fs) => fs | _ => #[]
theorem np : pfs.size = 5 := by kernel_rfl
theorem up : Tryz.prog.underlying 23 = some (.struct pfs) := by kernel_rfl
theorem cp : Tryz.prog.cellsOf 23 = 5 := by kernel_rfl
theorem hop : ∀ (i : Nat) (f : Field), pfs[i]? = some f → f.offset = i ∧ Tryz.prog.cellsOf f.type = 1 := Go.Deep.hone_of (by kernel_rfl)
theorem tyb : (pfs.toList.all fun f => f.type == 3) = true := by kernel_rfl
theorem typ : ∀ (i : Nat) (f : Field), pfs[i]? = some f → Tryz.prog.underlying f.type = some (.int .i64) := fun i f h => by
  have := List.all_eq_true.1 tyb f (by rw [← Array.getElem?_toList] at h; exact List.mem_of_getElem? h)
  rw [beq_iff_eq] at this
  rw [this]; exact u3
noncomputable def mfs : Array Field := match Tryz.prog.underlying 38 with | some (.struct fs) => fs | _ => #[]
noncomputable def hfs : List Field := match Tryz.prog.underlying 79 with | some (.struct fs) => fs.toList | _ => []
theorem ofHead : Tryz.prog.underlying 79 = some (.struct #[hfs.getD 0 default, hfs.getD 1 default]) := by kernel_rfl
theorem ofMsg : Tryz.prog.underlying 38 = some (.struct mfs) := by kernel_rfl
theorem msgInts : ∀ i ∈ [0, 1, 2, 3, 4, 5, 6, 9, 10, 11, 14], (mfs[i]?.bind fun f => Tryz.prog.underlying f.type) = some (.int .i64) := by
  intro i hi
  simp only [List.mem_cons, List.not_mem_nil, or_false] at hi
  rcases hi with rfl | rfl | rfl | rfl | rfl | rfl | rfl | rfl | rfl | rfl | rfl <;> kernel_rfl
theorem cells_msg' {H : Type} {enc : TypeId × Value → H} {W : World} {fuel : Nat} {cs : List Value} {x : DataW H × List MemPlace} (h : DataW.trod enc Tryz.prog W 0 (fun _ => true) true fuel 38 cs = some x) :
    ∃ (m : MsgA) (s : MsgS), cs = msgC m s ∧ MsgIn W.heap m s ∧ (Rows.uptoBulk x.1 ≤ 1048576 → MsgFit m) ∧ m.data.length ≤ Rows.uptoBulk x.1 :=
  cells_msg (th := 33) (eh := 79) (ti := 3) (tb := 5) ofMsg (by kernel_rfl) (Go.Deep.hone_of (by kernel_rfl)) (by kernel_rfl) msgInts (by kernel_rfl) (by kernel_rfl) (by kernel_rfl) (by kernel_rfl) (by kernel_rfl)
    ofHead (by kernel_rfl) (by kernel_rfl) (by kernel_rfl) (by kernel_rfl) (by kernel_rfl) (by kernel_rfl) (by kernel_rfl) u3 c3 u5 c5 h
theorem read_O : Tryz.prog.readableRec 67 = true ∧ 67 < Tryz.prog.types.size := ⟨by kernel_rfl, of_decide_eq_true (by kernel_rfl)⟩
theorem read_p : Tryz.prog.readableRec 23 = true ∧ 23 < Tryz.prog.types.size := ⟨by kernel_rfl, of_decide_eq_true (by kernel_rfl)⟩
noncomputable def sfs : Array Field := match Tryz.prog.underlying 47 with | some (.struct fs) => fs | _ => #[]
theorem ofStep : Tryz.prog.underlying 47 = some (.struct sfs) := by kernel_rfl
theorem stepInts : ∀ i ∈ [0, 1, 2, 3], (sfs[i]?.bind fun f => Tryz.prog.underlying f.type) = some (.int .i64) := by
  intro i hi
  simp only [List.mem_cons, List.not_mem_nil, or_false] at hi
  rcases hi with rfl | rfl | rfl | rfl <;> kernel_rfl
noncomputable def ofs : Array Field := match Tryz.prog.underlying 70 with | some (.struct fs) => fs | _ => #[]
theorem ofOp : Tryz.prog.underlying 70 = some (.struct ofs) := by kernel_rfl
theorem cop : Tryz.prog.cellsOf 70 = 24 := by kernel_rfl
theorem uops : Tryz.prog.underlying 67 = some (.slice 70) := by kernel_rfl
noncomputable def of_ (i : Nat) : Field := ofs.getD i default
theorem cells_step' {H : Type} {enc : TypeId × Value → H} {W : World} {fuel : Nat} {cs : List Value} {x : DataW H × List MemPlace} (h : DataW.trod enc Tryz.prog W 0 (fun _ => true) true fuel 47 cs = some x) :
    ∃ (y : StepA) (sd : Sl), cs = stepC y sd ∧ Bytes W.heap sd y.data :=
  cells_step (tb := 5) ofStep (by kernel_rfl) (Go.Deep.hone_of (by kernel_rfl)) (by kernel_rfl) stepInts (by kernel_rfl) (by kernel_rfl) u5 c5 h
theorem t2 : (of_ 2).type = 47 := by kernel_rfl
theorem t3 : (of_ 3).type = 38 := by kernel_rfl
set_option maxRecDepth 100000 in
theorem open_ops {H : Type} {enc : TypeId × Value → H} {W : World} {r : Reach} {base : Nat} {v : Value} {d : DataW H} {ps : List MemPlace} (hv : Value.okWide Tryz.prog W r base 67 v) (h : DataW.Trod enc Tryz.prog W 0 (fun _ => true) true 67 v d ps) :
    ∃ (s : Sl) (l : List OpP), v = s.val ∧ OpsL W.heap s l ∧ (Rows.uptoBulk d ≤ 1048576 → ∀ j, j < l.length → MsgFit (l.getD j op0).1.m) ∧ l.length ≤ Rows.uptoBulk d := by
  obtain ⟨a0, len, cap, rfl⟩ := okWide_slice uops hv
  obtain ⟨fuel, hf⟩ := h
  haveI : Inhabited OpP := ⟨op0⟩
  obtain ⟨s, l, e, hr, hq, hbl, hl, _⟩ := cells_rows opPC op0 (fun p D => MsgIn W.heap p.1.m p.2.ms ∧ Bytes W.heap p.2.xd p.1.x.data ∧ (Rows.uptoBulk D ≤ 1048576 → MsgFit p.1.m)) uops cop (fun k us y hy =>
    cells_op (f0 := of_ 0) (f1 := of_ 1) (f2 := of_ 2) (f3 := of_ 3) ofOp cop (by kernel_rfl) (by kernel_rfl) (by kernel_rfl) (by kernel_rfl) (by kernel_rfl) (by kernel_rfl) (by kernel_rfl) (by kernel_rfl) (by kernel_rfl) (by kernel_rfl) (by kernel_rfl) (by kernel_rfl) (by kernel_rfl) (by kernel_rfl)
      (fun n us y h => cells_step' (by rw [t2] at h; exact h)) (fun n us y h => cells_msg' (by rw [t3] at h; exact h)) hy) hf
  have e' : Value.slice a0 len cap = s.val := by simpa [Value.cells] using e
  exact ⟨s, l, e', ⟨hr, fun j hj => (hq j hj).elim fun _ h => h.1.1, fun j hj => (hq j hj).elim fun _ h => h.1.2.1⟩, fun hb j hj => (hq j hj).elim fun D h => h.1.2.2 (Nat.le_trans h.2 hb), hbl⟩
set_option maxRecDepth 100000 in
theorem lifted (os : Os) (started : os.Started) (H : Type) (enc : TypeId × Value → H) (F : Stop.Interp) :
    ReturnsInHanded {} Tryz.checked os 7 .any ((Rows.OpenSpec.upto Rows.coordBlindSpec).pre6 enc Tryz.prog Tryz.f7 Rows.coordBlindUptoRow.domain false) (((Rows.OpenSpec.upto Rows.coordBlindSpec).at F).post enc Tryz.prog Tryz.f7 false true false false) := by
  refine returnsInHanded_of_cond (C := Tryz.checked) (s := Rows.OpenSpec.upto Rows.coordBlindSpec) (k := Rows.uptoSmall) rfl own started (by kernel_rfl) Tryz.func7
    (OpenSpec.witness (enc := enc) (C := Tryz.checked) (s := Rows.OpenSpec.upto Rows.coordBlindSpec) (k := Rows.uptoSmall) rfl false ⟨#[], #[.agg #[.int .i64 0, .int .i64 0, .int .i64 0, .int .i64 0, .int .i64 0], .slice none 0 0], []⟩ 8 (by kernel_rfl) (by kernel_rfl) (by kernel_rfl)
      (x := ([.agg [.lit (.int .i64 0), .lit (.int .i64 0), .lit (.int .i64 0), .lit (.int .i64 0), .lit (.int .i64 0)], .nil], [], [])) (by kernel_rfl) rfl (by kernel_rfl)) ?_
  intro W base args ds gs before hval0 hW _ hk _
  have hval : ∀ (j : Nat) t v, Tryz.f7.params[j]? = some t → args[j]? = some v → Value.okWide Tryz.prog W .any base t v := hval0
  have hW' := hW
  obtain ⟨p, q, hA0, hV, hbp, _, _⟩ := hW
  have hA : DataW.TrodAll enc Tryz.prog W 0 (fun _ => true) true Tryz.f7.params.toList args.toList ds p := hA0
  have hAk := hA
  obtain ⟨rfl, rfl⟩ := trodVars_none hV
  rw [show Tryz.f7.params = #[23, 67] from rfl] at hA hval
  obtain ⟨v0, vs0, d0, ds0, p0, q0, a0, rfl, rfl, h0, r0⟩ := trodAll_cons hA
  obtain ⟨v1, vs1, d1, ds1, p1, q1, a1, rfl, rfl, h1, r1⟩ := trodAll_cons r0
  obtain ⟨rfl, rfl, rfl⟩ := trodAll_nil r1
  obtain rfl : args = #[v0, v1] := by cases args; simp_all
  have hbulk : Rows.uptoBulkAll ([d0, d1] ++ ([] : List (DataW H))) ≤ 1048576 := of_decide_eq_true hk
  simp only [List.append_nil, Rows.uptoBulkAll] at hbulk
  obtain ⟨N0, T0, K0, E0, R0, rfl, hp0⟩ := open_five up cp hop np typ (hval 0 23 v0 rfl rfl) h0
  obtain ⟨s1, l1, rfl, hb1, hf1, hl1⟩ := open_ops (hval 1 67 v1 rfl rfl) h1
  refine ((coordBlind_ok N0 T0 K0 E0 R0 s1 l1 W.heap hb1 (hf1 (by omega)) (by omega)).run W rfl).mono ?_
  rintro e W' ⟨v, rfl, hs, rfl, hx⟩
  exact ⟨_, rfl, law_post (b := 4) laidOut (by intro t ht; rcases List.mem_cons.1 ht with rfl | ht; exact read_p; rcases List.mem_cons.1 ht with rfl | ht; exact read_O; cases ht) u4 rfl hW' hAk hbp (hx.below hs) rfl rfl rfl rfl⟩
end CoordBlind
theorem coordBlindUpto_holds : Rows.CoordBlindUptoSaid :=
  OpenClaim.holds_of_cond 7 Tryz.f7 rfl rfl rfl rfl rfl rfl rfl ⟨rfl, rfl, rfl, rfl, rfl⟩ rfl rfl rfl rfl rfl (by kernel_rfl) Tryz.func7 (by kernel_rfl)
    (of_decide_eq_true (by kernel_rfl)) (by unfold Func.isWrapper; first | (rw [if_pos (by decide +kernel)]; kernel_rfl) | (rw [if_neg (by decide +kernel)]; exact ⟨rfl, rfl⟩))
    (fun os started H enc _ F => CoordBlind.lifted os started H enc F)
end Go.Proofs.YtaikdcnifijcoaaGreat
