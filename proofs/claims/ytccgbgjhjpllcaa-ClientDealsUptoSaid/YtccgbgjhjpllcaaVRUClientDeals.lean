/-
  The row of the law ClientDeals, where what comes in is of bulk at most 1048576.
-/
import Derived.Test.YtccgbgjhjpllcaaVLaw20b
import Derived.Test.YtccgbgjhjpllcaaVcRowU
import Derived.JoinedCond
set_option linter.unusedVariables false
set_option linter.unusedSimpArgs false
namespace Go.Proofs.Ytccgbgjhjpllcaa
open Go Go.Vc Go.ChangeShapes Go.WideShapes Go.ChangeAt Go.RowKit
namespace ClientDeals

theorem own : ownKnob Try.prog.godebug = none := by kernel_rfl
theorem laidOut : laidOutB Try.prog = true := by kernel_rfl
theorem ub : Try.prog.underlying 24 = some (.slice 5) := by kernel_rfl
theorem u5 : Try.prog.underlying 5 = some (.int .u8) := by kernel_rfl
theorem u3 : Try.prog.underlying 3 = some (.int .i64) := by kernel_rfl
theorem u4 : Try.prog.underlying 4 = some .bool := by kernel_rfl
theorem c5 : Try.prog.cellsOf 5 = 1 := by kernel_rfl
theorem c3 : Try.prog.cellsOf 3 = 1 := by kernel_rfl
noncomputable def pfs : Array Field := match Try.prog.underlying 23 with | some (.struct fs) => fs | _ => #[]
theorem np : pfs.size = 5 := by kernel_rfl
theorem up : Try.prog.underlying 23 = some (.struct pfs) := by kernel_rfl
theorem cp : Try.prog.cellsOf 23 = 5 := by kernel_rfl
theorem hop : ∀ (i : Nat) (f : Field), pfs[i]? = some f → f.offset = i ∧ Try.prog.cellsOf f.type = 1 := Go.Deep.hone_of (by kernel_rfl)
theorem tyb : (pfs.toList.all fun f => f.type == 3) = true := by kernel_rfl
theorem typ : ∀ (i : Nat) (f : Field), pfs[i]? = some f → Try.prog.underlying f.type = some (.int .i64) := fun i f h => by
  have := List.all_eq_true.1 tyb f (by rw [← Array.getElem?_toList] at h; exact List.mem_of_getElem? h)
  rw [beq_iff_eq] at this
  rw [this]; exact u3
noncomputable def mfs : Array Field := match Try.prog.underlying 29 with | some (.struct fs) => fs | _ => #[]
noncomputable def hfs : List Field := match Try.prog.underlying 85 with | some (.struct fs) => fs.toList | _ => []
theorem ofHead : Try.prog.underlying 85 = some (.struct #[hfs.getD 0 default, hfs.getD 1 default]) := by kernel_rfl
theorem ofMsg : Try.prog.underlying 29 = some (.struct mfs) := by kernel_rfl
theorem msgInts : ∀ i ∈ [0, 1, 2, 3, 4, 5, 6, 9, 10, 11, 14], (mfs[i]?.bind fun f => Try.prog.underlying f.type) = some (.int .i64) := by
  intro i hi
  simp only [List.mem_cons, List.not_mem_nil, or_false] at hi
  rcases hi with rfl | rfl | rfl | rfl | rfl | rfl | rfl | rfl | rfl | rfl | rfl <;> kernel_rfl
theorem cells_msg' {H : Type} {enc : TypeId × Value → H} {W : World} {fuel : Nat} {cs : List Value} {x : DataW H × List MemPlace} (h : DataW.trod enc Try.prog W 0 (fun _ => true) true fuel 29 cs = some x) :
    ∃ (m : MsgA) (s : MsgS), cs = msgC m s ∧ MsgIn W.heap m s ∧ (Rows.uptoBulk x.1 ≤ 1048576 → MsgFit m) ∧ m.data.length ≤ Rows.uptoBulk x.1 :=
  cells_msg (th := 25) (eh := 85) (ti := 3) (tb := 5) ofMsg (by kernel_rfl) (Go.Deep.hone_of (by kernel_rfl)) (by kernel_rfl) msgInts (by kernel_rfl) (by kernel_rfl) (by kernel_rfl) (by kernel_rfl) (by kernel_rfl)
    ofHead (by kernel_rfl) (by kernel_rfl) (by kernel_rfl) (by kernel_rfl) (by kernel_rfl) (by kernel_rfl) (by kernel_rfl) u3 c3 u5 c5 h
set_option maxRecDepth 100000 in
theorem open_msg {H : Type} {enc : TypeId × Value → H} {W : World} {r : Reach} {base : Nat} {v : Value} {d : DataW H} {ps : List MemPlace} (hv : Value.okWide Try.prog W r base 29 v) (h : DataW.Trod enc Try.prog W 0 (fun _ => true) true 29 v d ps) :
    ∃ (m : MsgA) (s : MsgS), v = .agg (msgC m s).toArray ∧ MsgIn W.heap m s ∧ (Rows.uptoBulk d ≤ 1048576 → MsgFit m) := by
  have hv2 := okWide_agg (t := 29) (P := Try.prog) (W := W) (r := r) (base := base) (v := v) ofMsg hv
  obtain ⟨cs, rfl⟩ := hv2
  obtain ⟨fuel, hf⟩ := h
  obtain ⟨m, s, e, hm, hfit, _⟩ := cells_msg' hf
  have e' : cs.toList = msgC m s := e
  exact ⟨m, s, by rw [← e'], hm, hfit⟩
theorem read_b : Try.prog.readableRec 24 = true ∧ 24 < Try.prog.types.size := ⟨by kernel_rfl, of_decide_eq_true (by kernel_rfl)⟩
theorem read_g : Try.prog.readableRec 29 = true ∧ 29 < Try.prog.types.size := ⟨by kernel_rfl, of_decide_eq_true (by kernel_rfl)⟩
theorem read_i : Try.prog.readableRec 3 = true ∧ 3 < Try.prog.types.size := ⟨by kernel_rfl, of_decide_eq_true (by kernel_rfl)⟩
theorem read_p : Try.prog.readableRec 23 = true ∧ 23 < Try.prog.types.size := ⟨by kernel_rfl, of_decide_eq_true (by kernel_rfl)⟩

set_option maxRecDepth 100000 in
theorem lifted (os : Os) (started : os.Started) (H : Type) (enc : TypeId × Value → H) (F : Stop.Interp) :
    ReturnsInHanded {} Try.checked os 3 .any ((Rows.OpenSpec.upto Rows.clientDealsSpec).pre6 enc Try.prog Try.f3 Rows.clientDealsUptoRow.domain false) (((Rows.OpenSpec.upto Rows.clientDealsSpec).at F).post enc Try.prog Try.f3 false true false false) := by
  refine returnsInHanded_of_cond (C := Try.checked) (s := Rows.OpenSpec.upto Rows.clientDealsSpec) (k := Rows.uptoSmall) rfl own started (by kernel_rfl) Try.func3
    (OpenSpec.witness (enc := enc) (C := Try.checked) (s := Rows.OpenSpec.upto Rows.clientDealsSpec) (k := Rows.uptoSmall) rfl false ⟨#[], #[.agg #[.int .i64 0, .int .i64 0, .int .i64 0, .int .i64 0, .int .i64 0], .int .i64 0, .slice none 0 0, .slice none 0 0, .agg #[.int .i64 0, .int .i64 0, .int .i64 0, .int .i64 0, .int .i64 0, .int .i64 0, .int .i64 0, .slice none 0 0, .string .empty, .int .i64 0, .int .i64 0, .int .i64 0, .slice none 0 0, .slice none 0 0, .int .i64 0, .slice none 0 0]], []⟩ 8 (by kernel_rfl) (by kernel_rfl) (by kernel_rfl)
      (x := ([.agg [.lit (.int .i64 0), .lit (.int .i64 0), .lit (.int .i64 0), .lit (.int .i64 0), .lit (.int .i64 0)], .lit (.int .i64 0), .nil, .nil, .agg [.lit (.int .i64 0), .lit (.int .i64 0), .lit (.int .i64 0), .lit (.int .i64 0), .lit (.int .i64 0), .lit (.int .i64 0), .lit (.int .i64 0), .nil, .lit (.string []), .lit (.int .i64 0), .lit (.int .i64 0), .lit (.int .i64 0), .nil, .nil, .lit (.int .i64 0), .nil]], [], [])) (by kernel_rfl) rfl (by kernel_rfl)) ?_
  intro W base args ds gs before hval0 hW _ hk _
  have hval : ∀ (j : Nat) t v, Try.f3.params[j]? = some t → args[j]? = some v → Value.okWide Try.prog W .any base t v := hval0
  have hW' := hW
  obtain ⟨p, q, hA0, hV, hbp, _, _⟩ := hW
  have hA : DataW.TrodAll enc Try.prog W 0 (fun _ => true) true Try.f3.params.toList args.toList ds p := hA0
  have hAk := hA
  obtain ⟨rfl, rfl⟩ := trodVars_none hV
  rw [show Try.f3.params = #[23, 3, 24, 24, 29] from rfl] at hA hval
  obtain ⟨v0, vs0, d0, ds0, p0, q0, a0, rfl, rfl, h0, r0⟩ := trodAll_cons hA
  obtain ⟨v1, vs1, d1, ds1, p1, q1, a1, rfl, rfl, h1, r1⟩ := trodAll_cons r0
  obtain ⟨v2, vs2, d2, ds2, p2, q2, a2, rfl, rfl, h2, r2⟩ := trodAll_cons r1
  obtain ⟨v3, vs3, d3, ds3, p3, q3, a3, rfl, rfl, h3, r3⟩ := trodAll_cons r2
  obtain ⟨v4, vs4, d4, ds4, p4, q4, a4, rfl, rfl, h4, r4⟩ := trodAll_cons r3
  obtain ⟨rfl, rfl, rfl⟩ := trodAll_nil r4
  obtain rfl : args = #[v0, v1, v2, v3, v4] := by cases args; simp_all
  have hbulk : Rows.uptoBulkAll ([d0, d1, d2, d3, d4] ++ ([] : List (DataW H))) ≤ 1048576 := of_decide_eq_true hk
  simp only [List.append_nil, Rows.uptoBulkAll] at hbulk
  obtain ⟨N0, T0, K0, E0, R0, rfl, hp0⟩ := open_five up cp hop np typ (hval 0 23 v0 rfl rfl) h0
  obtain ⟨x1, rfl, rfl, rfl, w1⟩ := open_int u3 (hval 1 3 v1 rfl rfl) h1
  have hb1 := int_of w1
  obtain ⟨g2, hg2⟩ := h2
  obtain ⟨s2, l2, e2, hb2, hl2⟩ := cells_bytes ub u5 c5 hg2
  have hl2 : l2.length ≤ Rows.uptoBulk d2 := hl2
  obtain rfl : v2 = s2.val := by obtain ⟨x0, x1, x2, hx⟩ := okWide_slice ub (hval 2 24 v2 rfl rfl); subst hx; simpa [Value.cells] using e2
  obtain ⟨g3, hg3⟩ := h3
  obtain ⟨s3, l3, e3, hb3, hl3⟩ := cells_bytes ub u5 c5 hg3
  have hl3 : l3.length ≤ Rows.uptoBulk d3 := hl3
  obtain rfl : v3 = s3.val := by obtain ⟨x0, x1, x2, hx⟩ := okWide_slice ub (hval 3 24 v3 rfl rfl); subst hx; simpa [Value.cells] using e3
  obtain ⟨m4, t4, rfl, hm4, hf4⟩ := open_msg (hval 4 29 v4 rfl rfl) h4
  refine ((clientDeals_ok N0 T0 K0 E0 R0 s2 s3 t4 l2 l3 x1 m4 W.heap hb2 hb3 hm4 (hf4 (by omega)) (by omega) (by omega)).run W rfl).mono ?_
  rintro e W' ⟨v, rfl, hs, rfl, hx⟩
  exact ⟨_, rfl, law_post (b := 4) laidOut (by intro t ht; rcases List.mem_cons.1 ht with rfl | ht; exact read_p; rcases List.mem_cons.1 ht with rfl | ht; exact read_i; rcases List.mem_cons.1 ht with rfl | ht; exact read_b; rcases List.mem_cons.1 ht with rfl | ht; exact read_b; rcases List.mem_cons.1 ht with rfl | ht; exact read_g; cases ht) u4 rfl hW' hAk hbp (hx.below hs) rfl rfl rfl rfl⟩
end ClientDeals

theorem clientDealsUpto_holds : Rows.ClientDealsUptoSaid :=
  OpenClaim.holds_of_cond 3 Try.f3 rfl rfl rfl rfl rfl rfl rfl ⟨rfl, rfl, rfl, rfl, rfl⟩ rfl rfl rfl rfl rfl (by kernel_rfl) Try.func3 (by kernel_rfl)
    (of_decide_eq_true (by kernel_rfl)) (by unfold Func.isWrapper; first | (rw [if_pos (by decide +kernel)]; kernel_rfl) | (rw [if_neg (by decide +kernel)]; exact ⟨rfl, rfl⟩))
    (fun os started H enc _ F => ClientDeals.lifted os started H enc F)
end Go.Proofs.Ytccgbgjhjpllcaa
