/-
  The walks of package coord: a new one, its power, who is up, how many it takes, an end.
-/
import Derived.Test.YtaikdcnifijcoaaVCo
import Derived.Test.YtaikdcnifijcoaaVBookB
import Derived.Test.YtaikdcnifijcoaaVBookA
import Derived.Test.YtaikdcnifijcoaaVGf2
set_option linter.unusedVariables false
set_option linter.unusedSimpArgs false
namespace Go.Proofs.Ytaikdcnifijcoaa
open Go Go.Vc Go.Gf
variable {H : Heap} {O : Ow} {cb fb bb sb N T K E R : Nat} {down : Bool} {s : Slt} {t : TaskA} {ts : TaskS}
theorem conew_ok (hw : WfO H O) : CallsH Try.prog 6 [pmV N T K E R] H fun r H' => ∃ cb fb bb sb O', r = ptrD cb ∧ Step (fun _ => False) H O H' O' ∧ CoAt H' O' cb fb bb sb N T K E R false (slt0 512) task0 taskS0 := by
  refine CallsH.enter h6 Try.func6 rfl rfl rfl (by decide) fun u => run ?_
  refine RegS.boxA fun H1 x1 z1 b1 => ?_
  have b1 : Blk H1 H.size 23 (pmL N T K E R) := b1
  refine run ?_
  refine RegP.call (newF_ok H1) ?_
  rintro _ H2 ⟨fb, rfl, hF, x2, hfb⟩
  refine ⟨.inl x2, ?_⟩
  have b2 := b1.ext x2
  have w2 := (hw.ext x1).ext x2
  refine run ?_
  refine RegP.call (bnew_ok (k1 := 2) (k2 := 3) w2 (by decide)) ?_
  rintro _ H3 ⟨bb, sb, O3, rfl, st, hs, hbb⟩
  have x3 : Ext H2 H3 := (Ext.refl _).then st.chg fun b hb => hb.elim
  refine ⟨.inl x3, ?_⟩
  refine run ?_
  refine RegP.boxA fun H4 x4 z4 b4 => ?_
  refine run ?_
  have z3 := x3.size
  have fl := hcell_lt (hF.exp 0 (by omega))
  have st4 : Step (fun _ => False) H O H4 O3 := ((((x1.trans x2).step hw).trans st).trans (x4.step st.wf))
  have z03 := ((x1.trans x2).trans x3).size
  have st5 : Step (fun _ => False) H3 O3 H4 (O3.give (fun x => x = H3.size) 1) := (x4.step st.wf).give fun x hx => by omega
  have h4 : BkAt H4 (O3.give (fun x => x = H3.size) 1) 2 3 bb sb N T K E R false (slt0 512) := hs.step st5 id id id
  have fl3 : fb < H2.size := fl
  have hfo : (O3.give (fun x => x = H3.size) 1) fb = 0 := by
    rw [Ow.give_neg (by omega), st.agr fb fl3]
    exact hw.new fb (by omega)
  exact ret1 ⟨H3.size, fb, bb, sb, O3.give (fun x => x = H3.size) 1, rfl, st4.give fun x hx => by omega, ⟨b4, Ow.give_pos rfl, (hF.ext x3).ext x4, hfo, h4, TaskAt.zero _ _⟩⟩
/-- Who is up, but one perhaps. -/
def upL (up : List Bool) (but : Int) (i : Nat) : List Int := ((List.range i).filter fun n => up.getD n false && decide ((n : Int) ≠ but)).map fun (n : Nat) => (n : Int)
theorem upL_succ (up : List Bool) (but : Int) (i : Nat) : upL up but (i + 1) = upL up but i ++ if up.getD i false = true ∧ (i : Int) ≠ but then [(i : Int)] else [] := by
  unfold upL
  rw [List.range_succ, List.filter_append, List.map_append]
  congr 1
  by_cases h : up.getD i false = true ∧ (i : Int) ≠ but
  · rw [if_pos h, List.filter_cons_of_pos (by simp only [Bool.and_eq_true, decide_eq_true_eq]; exact h)]; rfl
  · rw [if_neg h, List.filter_cons_of_neg (by simp only [Bool.and_eq_true, decide_eq_true_eq]; exact h)]; rfl
theorem upL_len (up : List Bool) (but : Int) (i : Nat) : (upL up but i).length ≤ i := by
  unfold upL
  rw [List.length_map]
  exact Nat.le_trans (List.length_filter_le _ _) (by simp)
theorem co_m_ok (h : CoAt H O cb fb bb sb N T K E R down s t ts) (hT : T ≤ 255) (hK : K ≤ 255) (hE : E ≤ 255) : CallsH Try.prog 37 [ptrD cb] H fun r H' => r = I64 (T + K + E) ∧ H = H' := by
  have hb := h.blk
  refine CallsH.enter h37 Try.func37 rfl rfl rfl (by decide) fun u => run ?_
  exact ret1 ⟨rfl, rfl⟩
theorem co_q_ok (h : CoAt H O cb fb bb sb N T K E R down s t ts) (hT : T ≤ 255) (hK : K ≤ 255) (hE : E ≤ 255) : CallsH Try.prog 36 [ptrD cb] H fun r H' => r = I64 (T + K + E + E) ∧ H = H' := by
  have hb := h.blk
  refine CallsH.enter h36 Try.func36 rfl rfl rfl (by decide) fun u => run ?_
  refine RegP.call (co_m_ok h hT hK hE) ?_
  rintro _ _ ⟨rfl, rfl⟩
  refine ⟨.inl (Ext.refl _), ?_⟩
  refine run ?_
  exact ret1 ⟨rfl, rfl⟩
theorem coTask_ok (h : CoAt H O cb fb bb sb N T K E R down s t ts) : CallsH Try.prog 8 [ptrD cb] H fun r H' => r = .tuple #[IV t.kind, IV t.session] ∧ H = H' := by
  have hb := h.blk
  refine CallsH.enter h8 Try.func8 rfl rfl rfl (by decide) fun u => run ?_
  exact ret2 ⟨rfl, rfl⟩
theorem coBook_ok (h : CoAt H O cb fb bb sb N T K E R down s t ts) : CallsH Try.prog 9 [ptrD cb] H fun r H' => r = ptrD bb ∧ H = H' := by
  have hb := h.blk
  refine CallsH.enter h9 Try.func9 rfl rfl rfl (by decide) fun u => run ?_
  exact ret1 ⟨rfl, rfl⟩
/-- A block of one's own. -/
theorem cell_new {H1 : Heap} (hw : WfO H O) (x : Ext H H1) (hz : H1.size = H.size + 1) : ∃ k9 O1, 5 ≤ k9 ∧ (∀ b, b < H.size → O b ≠ k9) ∧ Step (fun _ => False) H O H1 O1 ∧ O1 H.size = k9 := by
  obtain ⟨k9, h1, h2⟩ := owner_at O H.size 5
  exact ⟨k9, O.give (fun x => x = H.size) k9, h1, h2, (x.step hw).give fun x hx => by omega, Ow.give_pos rfl⟩
def Co (x : Nat) : Prop := 1 ≤ x ∧ x ≤ 4
/-- A store into a block of one's own. -/
theorem cell_set {A : Heap} {OA : Ow} {b k9 : Nat} {e : TypeId} {cs : List Value} (us : List Value) (hw : WfO A OA) (hb : Blk A b e cs) (ho : OA b = k9) (hp : puts cs 0 us = us) : Blk (hsets A b 0 us) b e us ∧ Step (· = k9) A OA (hsets A b 0 us) OA :=
  ⟨by have := Blk.sets us 0 hb; rw [hp] at this; exact this, (hsets_chg b us 0 A).step hw fun x _ e => by subst e; exact ho⟩
/-- The task is done. -/
theorem coEnd_ok (e : Int) (hw : WfO H O) (h : CoAt H O cb fb bb sb N T K E R down s t ts) : CallsH Try.prog 33 [ptrD cb, IV e] H fun r H' => r = .tuple #[ansV (ansE e) ansS0, Sl.nil.val] ∧ ∃ O', Step Co H O H' O' ∧ CoAt H' O' cb fb bb sb N T K E R down s task0 taskS0 := by
  refine CallsH.enter h33 Try.func33 rfl rfl rfl (by decide) fun u => run ?_
  refine RegS.allocA fun H1 x1 z1 b1 => ?_
  have b1 : Blk H1 H.size 35 (ansC ans0 ansS0) := b1
  obtain ⟨k9, O1, hk9, hno, st1, ho⟩ := cell_new hw x1 z1
  have h1 := h.step st1 id id id id id
  have hb1 := h1.blk
  refine run ?_
  refine RegS.storeA (us := taskC task0 taskS0) hb1 ?_
  have c2 := hsets_chg cb (taskC task0 taskS0) 7 H1
  have b2 : Blk (hsets H1 cb 7 (taskC task0 taskS0)) cb 60 (coordC N T K E R fb bb task0 taskS0) := Blk.sets (taskC task0 taskS0) 7 hb1
  obtain ⟨h2, st2⟩ := h1.turn st1.wf c2 b2 (TaskAt.zero _ _)
  have k2 := b1.step st2 (by omega)
  generalize hsets H1 cb 7 (taskC task0 taskS0) = H2 at b2 k2 h2 st2 ⊢
  refine run ?_
  refine RegS.call (done_ok e H2) ?_
  rintro _ H3 ⟨rfl, x3⟩
  refine run ?_
  refine RegS.storeA (us := ansC (ansE e) ansS0) (k2.ext x3) ?_
  obtain ⟨b4, st4⟩ := cell_set (ansC (ansE e) ansS0) (st2.wf.ext x3) (k2.ext x3) ho rfl
  generalize hsets H3 H.size 0 (ansC (ansE e) ansS0) = H4 at b4 st4 ⊢
  have h4 := (h2.ext st2.wf x3).step st4 (by omega) (by omega) (by omega) (by omega) (by omega)
  refine run ?_
  exact retcA (cs := ansC (ansE e) ansS0) b4 ⟨rfl, O1, Step.drop (S := fun x => Co x ∨ x = k9) (((st1.mono fun x h => h.elim).trans (st2.mono fun x e => by subst e; exact .inl ⟨by omega, by omega⟩)).trans (((x3.step st2.wf).mono (S := fun _ => False) fun x h => h.elim).trans (st4.mono fun x e => .inr e))) fun b hb hS => hS.elim id fun e => absurd e (hno b hb), h4⟩
end Go.Proofs.Ytaikdcnifijcoaa
