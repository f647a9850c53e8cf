/-
  The row of the law ClientOnce.
-/
import Derived.Test.YtgmemfcfjlndoaaGreatVLaw20f
import Derived.Test.YtgmemfcfjlndoaaGreatVcRowM
set_option linter.unusedVariables false
set_option linter.unusedSimpArgs false
namespace Go.Proofs.YtgmemfcfjlndoaaGreat
open Go Go.Vc Go.ChangeShapes Go.WideShapes Go.ChangeAt Go.RowKit
namespace ClientOnce

theorem own : ownKnob Tryz.prog.godebug = none := by kernel_rfl
theorem laidOut : laidOutB Tryz.prog = true := by kernel_rfl
theorem ub : Tryz.prog.underlying 36 = some (.slice 5) := by kernel_rfl
theorem u5 : Tryz.prog.underlying 5 = some (.int .u8) := by kernel_rfl
theorem u3 : Tryz.prog.underlying 3 = some (.int .i64) := by kernel_rfl
theorem u4 : Tryz.prog.underlying 4 = some .bool := by kernel_rfl
theorem c5 : Tryz.prog.cellsOf 5 = 1 := by kernel_rfl
theorem b5 : Tryz.prog.bytesOf 5 = 1 := by kernel_rfl
theorem cb : Tryz.prog.cellsOf 36 = 1 := by kernel_rfl
noncomputable def pfs : Array Field := match Tryz.prog.underlying 23 with | some (.struct fs) => fs | _ => #[]
theorem np : pfs.size = 5 := by kernel_rfl
theorem up : Tryz.prog.underlying 23 = some (.struct pfs) := by kernel_rfl
theorem cp : Tryz.prog.cellsOf 23 = 5 := by kernel_rfl
theorem hop : ∀ (i : Nat) (f : Field), pfs[i]? = some f → f.offset = i ∧ Tryz.prog.cellsOf f.type = 1 := Go.Deep.hone_of (by kernel_rfl)
theorem tyb : (pfs.toList.all fun f => f.type == 3) = true := by kernel_rfl
theorem typ : ∀ (i : Nat) (f : Field), pfs[i]? = some f → Tryz.prog.underlying f.type = some (.int .i64) := fun i f h => by
  have := List.all_eq_true.1 tyb f (by rw [← Array.getElem?_toList] at h; exact List.mem_of_getElem? h)
  rw [beq_iff_eq] at this
  rw [this]; exact u3
theorem c3 : Tryz.prog.cellsOf 3 = 1 := by kernel_rfl
noncomputable def mfs : Array Field := match Tryz.prog.underlying 38 with | some (.struct fs) => fs | _ => #[]
noncomputable def hfs : List Field := match Tryz.prog.underlying 79 with | some (.struct fs) => fs.toList | _ => []
theorem ofHead : Tryz.prog.underlying 79 = some (.struct #[hfs.getD 0 default, hfs.getD 1 default]) := by kernel_rfl
theorem ofMsg : Tryz.prog.underlying 38 = some (.struct mfs) := by kernel_rfl
theorem msgInts : ∀ i ∈ [0, 1, 2, 3, 4, 5, 6, 9, 10, 11, 14], (mfs[i]?.bind fun f => Tryz.prog.underlying f.type) = some (.int .i64) := by
  intro i hi
  simp only [List.mem_cons, List.not_mem_nil, or_false] at hi
  rcases hi with rfl | rfl | rfl | rfl | rfl | rfl | rfl | rfl | rfl | rfl | rfl <;> kernel_rfl
theorem cells_msg' {H : Type} {enc : TypeId × Value → H} {W : World} {fuel : Nat} {cs : List Value} {x : DataW H × List MemPlace} (h : DataW.trod enc Tryz.prog W 0 (fun _ => true) true fuel 38 cs = some x) :
    ∃ (m : MsgA) (s : MsgS), cs = msgC m s ∧ MsgIn W.heap m s ∧ (Rows.uptoBulk x.1 ≤ 1048576 → MsgFit m) ∧ m.data.length ≤ Rows.uptoBulk x.1 :=
  cells_msg (th := 33) (eh := 79) (ti := 3) (tb := 5) ofMsg (by kernel_rfl) (Go.Deep.hone_of (by kernel_rfl)) (by kernel_rfl) msgInts (by kernel_rfl) (by kernel_rfl) (by kernel_rfl) (by kernel_rfl) (by kernel_rfl)
    ofHead (by kernel_rfl) (by kernel_rfl) (by kernel_rfl) (by kernel_rfl) (by kernel_rfl) (by kernel_rfl) (by kernel_rfl) u3 c3 u5 c5 h
theorem umsgs : Tryz.prog.underlying 24 = some (.slice 38) := by kernel_rfl
theorem cmsg : Tryz.prog.cellsOf 38 = 16 := by kernel_rfl
set_option maxRecDepth 100000 in
theorem open_msgs {H : Type} {enc : TypeId × Value → H} {W : World} {base : Nat} {v : Value} {d : DataW H} {ps : List MemPlace} (hv : Value.okWide Tryz.prog W .any base 24 v) (h : DataW.Trod enc Tryz.prog W 0 (fun _ => true) true 24 v d ps) :
    ∃ (s : Sl) (l : List MsgP), v = s.val ∧ MsgL W.heap s l ∧ l.length ≤ 9223372036854775807 := by
  obtain ⟨a0, len, cap, rfl⟩ := okWide_slice umsgs hv
  obtain ⟨fuel, hf⟩ := h
  haveI : Inhabited MsgP := ⟨(msg0, msgS0)⟩
  obtain ⟨s, l, e, hr, hq, _, hl, _⟩ := cells_rows msgPC (msg0, msgS0) (fun p D => MsgIn W.heap p.1 p.2) umsgs cmsg (fun k us y hy => by obtain ⟨m, s, e, hm, _⟩ := cells_msg' hy; exact ⟨(m, s), e, hm⟩) hf
  have e' : Value.slice a0 len cap = s.val := by simpa [Value.cells] using e
  exact ⟨s, l, e', ⟨hr, fun j hj => (hq j hj).elim fun _ h => h.1⟩, hl⟩
theorem read_G : Tryz.prog.readableRec 24 = true ∧ 24 < Tryz.prog.types.size := ⟨by kernel_rfl, of_decide_eq_true (by kernel_rfl)⟩
theorem read_b : Tryz.prog.readableRec 36 = true ∧ 36 < Tryz.prog.types.size := ⟨by kernel_rfl, of_decide_eq_true (by kernel_rfl)⟩
theorem read_i : Tryz.prog.readableRec 3 = true ∧ 3 < Tryz.prog.types.size := ⟨by kernel_rfl, of_decide_eq_true (by kernel_rfl)⟩
theorem read_p : Tryz.prog.readableRec 23 = true ∧ 23 < Tryz.prog.types.size := ⟨by kernel_rfl, of_decide_eq_true (by kernel_rfl)⟩

set_option maxRecDepth 100000 in
theorem lifted (os : Os) (started : os.Started) (H : Type) (enc : TypeId × Value → H) :
    ReturnsInHanded {} Tryz.checked os 4 .any (Rows.clientOnceSpec.pre6 enc Tryz.prog Tryz.f4 Rows.clientOnceRow.domain false) (Rows.clientOnceSpec.post enc Tryz.prog Tryz.f4 false true false false) := by
  refine returnsInHanded_of_change_sized (C := Tryz.checked) own started (by kernel_rfl) Tryz.func4
    (ChangeSpec.witness6 (enc := enc) (C := Tryz.checked) false ⟨#[], #[.agg #[.int .i64 0, .int .i64 0, .int .i64 0, .int .i64 0, .int .i64 0], .int .i64 0, .int .i64 0, .slice none 0 0, .slice none 0 0], []⟩ 8 (by kernel_rfl) (by kernel_rfl) (by kernel_rfl) (by kernel_rfl)) ?_
  intro W base args ds gs before hval0 hW hcnd hsz0 _
  have hsz : (DataW.weightsEach Tryz.prog (Tryz.f4.params.toList ++ Rows.clientOnceSpec.plain.varTypes Tryz.prog) (ds ++ gs)).all (· ≤ reachBytes) = true := hsz0
  have hval : ∀ (j : Nat) t v, Tryz.f4.params[j]? = some t → args[j]? = some v → Value.okWide Tryz.prog W .any base t v := hval0
  have hW' := hW
  obtain ⟨p, q, hA0, hV, hbp, _, _⟩ := hW
  have hA : DataW.TrodAll enc Tryz.prog W 0 (fun _ => true) true Tryz.f4.params.toList args.toList ds p := hA0
  have hAk := hA
  obtain ⟨rfl, rfl⟩ := trodVars_none hV
  rw [show Tryz.f4.params = #[23, 3, 3, 24, 36] from rfl] at hA hval hsz

  obtain ⟨v0, v1, v2, v3, v4, d0, d1, d2, d3, d4, p0, p1, p2, p3, p4, rfl, rfl, rfl, h0, h1, h2, h3, h4⟩ := trodAll_five hA
  obtain ⟨N0, T0, K0, E0, R0, rfl, hp0⟩ := open_five up cp hop np typ (hval 0 23 v0 rfl rfl) h0
  obtain ⟨x1, rfl, rfl, rfl, w1⟩ := open_int u3 (hval 1 3 v1 rfl rfl) h1
  have hb1 := int_of w1
  obtain ⟨x2, rfl, rfl, rfl, w2⟩ := open_int u3 (hval 2 3 v2 rfl rfl) h2
  have hb2 := int_of w2
  obtain ⟨s3, l3, rfl, hb3, hl3⟩ := open_msgs (hval 3 24 v3 rfl rfl) h3
  obtain ⟨s4, l4, rfl, hb4, hl4⟩ := open_bytes ub u5 c5 b5 (hval 4 36 v4 rfl rfl) h4 hsz (j := 4) rfl rfl
  refine ((clientOnce_ok N0 T0 K0 E0 R0 s3 s4 l3 l4 x1 x2 W.heap hb3 hb4 hl3 hl4 hb1 hb2 hp0).run W rfl).mono ?_
  rintro e W' ⟨v, rfl, hs, rfl, hx⟩
  exact ⟨_, rfl, law_post (b := 4) laidOut (by intro t ht; rcases List.mem_cons.1 ht with rfl | ht; exact read_p; rcases List.mem_cons.1 ht with rfl | ht; exact read_i; rcases List.mem_cons.1 ht with rfl | ht; exact read_i; rcases List.mem_cons.1 ht with rfl | ht; exact read_G; rcases List.mem_cons.1 ht with rfl | ht; exact read_b; cases ht) u4 rfl hW' hAk hbp (hx.below hs) rfl rfl rfl rfl⟩
end ClientOnce

theorem clientOnce_holds : Rows.ClientOnceSaid :=
  OpenClaim.holds_of_wide 4 Tryz.f4 rfl rfl rfl rfl rfl rfl rfl ⟨rfl, rfl, rfl, rfl, rfl⟩ rfl rfl rfl rfl rfl (by kernel_rfl) Tryz.func4 (by kernel_rfl)
    (of_decide_eq_true (by kernel_rfl)) (by unfold Func.isWrapper; first | (rw [if_pos (by decide +kernel)]; kernel_rfl) | (rw [if_neg (by decide +kernel)]; exact ⟨rfl, rfl⟩))
    (fun os started H enc _ => ClientOnce.lifted os started H enc)
end Go.Proofs.YtgmemfcfjlndoaaGreat
