/-
  The plain law of a first call: it ends at once, or it is under way, and nobody has answered.
-/
import Derived.Test.YtaikdcnifijcoaaVCo10
import Derived.Test.YtaikdcnifijcoaaVLaw21
set_option linter.unusedVariables false
set_option linter.unusedSimpArgs false
namespace Go.Proofs.Ytaikdcnifijcoaa
open Go Go.Vc Go.Gf
def Shape (k : Int) (p : COut) : Prop := p.2.2.s.pw = pw0 ∧ ((p.1.done = true ∧ p.2.2.t.kind = 0) ∨ (p.1.done = false ∧ p.2.2.t.kind = k ∧ p.2.2.t.got = []))
theorem shape_end {k e : Int} {c : CSt} (h : c.s.pw = pw0) : Shape k (cEnd e c) := ⟨h, .inl ⟨rfl, rfl⟩⟩
theorem shape_begin {k phase sort target : Int} {l : List Int} {c : CSt} (h : c.s.pw = pw0) (hk : c.t.kind = k) : Shape k (cBegin false phase sort target l c) := by
  unfold cBegin
  split
  · exact shape_end (c := ⟨_, _, _⟩) (bk_pw h)
  · exact ⟨bk_pw h, .inr ⟨rfl, hk, rfl⟩⟩
theorem shape_enough {least : Nat} {k phase sort target : Int} {l : List Int} {c : CSt} (h : c.s.pw = pw0) (hk : c.t.kind = k) : Shape k (cEnough false least phase sort target l c) := by
  unfold cEnough
  split
  · exact shape_end h
  · exact shape_begin h hk
theorem shape_put {N q : Nat} {k : Int} {x : StepA} {c : CSt} (h : c.s.pw = pw0) (hk : c.t.kind = k) : Shape k (cPut false N q x c) := by
  unfold cPut
  split
  · exact shape_end h
  split
  · exact shape_end h
  split
  · exact shape_end h
  split
  · exact shape_end h
  exact shape_enough (c := ⟨_, _, _⟩) h hk
theorem shape_start {N T K E : Nat} {k : Int} {x : StepA} {c : CSt} (h : c.s.pw = pw0) (hk : c.t.kind = k) : Shape k (cStart false N T K E x c) := by
  unfold cStart
  split
  · exact shape_put h hk
  split
  · cases cFind c.v.dir x.id with
    | none => exact shape_end h
    | some hd => exact shape_begin (c := cHead hd c) h hk
  split
  · split
    · exact shape_end h
    · exact shape_enough h hk
  split
  · exact shape_enough h hk
  split
  · exact shape_end h
  split
  · exact shape_end (c := cMark false [x.a] c) (bk_pw h)
  · exact shape_enough (c := cMark false [x.a] c) (bk_pw h) hk
theorem shape_call {N T K E : Nat} {x : StepA} {c : CSt} (h : c.s.pw = pw0) (hk : c.t.kind = 0) : Shape x.kind (cCall false N T K E x c) := by
  unfold cCall
  split
  · exact ⟨h, .inl ⟨rfl, hk⟩⟩
  split
  · exact ⟨h, .inl ⟨rfl, hk⟩⟩
  split
  · exact ⟨bk_pw h, .inl ⟨rfl, hk⟩⟩
  split
  · exact ⟨h, .inl ⟨rfl, hk⟩⟩
  split
  · exact ⟨h, .inl ⟨rfl, hk⟩⟩
  split
  · exact shape_start (c := cNew x.kind c) h rfl
  · exact ⟨h, .inl ⟨rfl, hk⟩⟩
/-- Where no object is, none comes of a call. -/
theorem bkV_dir {s : Slt} {v v' : BookA} {e : Nat} {down : Bool} (h : v.dir = []) (h' : v'.dir = []) : (bkV down s v v' e).dir = [] := by
  unfold bkV
  split
  · exact h
  · split
    · exact h'
    · exact h
theorem dir_begin {phase sort target : Int} {l : List Int} {c : CSt} (h : c.v.dir = []) : (cBegin false phase sort target l c).2.2.v.dir = [] := by
  have hn : (nextA c.v).1.dir = [] := by rw [(nextA_rows c.v).1]; exact h
  unfold cBegin
  split
  · exact bkV_dir h hn
  · exact hn
theorem dir_enough {least : Nat} {phase sort target : Int} {l : List Int} {c : CSt} (h : c.v.dir = []) : (cEnough false least phase sort target l c).2.2.v.dir = [] := by
  unfold cEnough
  split
  · exact h
  · exact dir_begin h
theorem dir_start {N T K E : Nat} {x : StepA} {c : CSt} (h : c.v.dir = []) : (cStart false N T K E x c).2.2.v.dir = [] := by
  unfold cStart
  split
  · unfold cPut
    split
    · exact h
    split
    · exact h
    split
    · exact h
    split
    · exact h
    exact dir_enough (c := ⟨_, _, _⟩) h
  split
  · cases cFind c.v.dir x.id with
    | none => exact h
    | some hd => exact dir_begin (c := cHead hd c) h
  split
  · split
    · exact h
    · exact dir_enough h
  split
  · exact dir_enough h
  split
  · exact h
  split
  · exact bkV_dir h h
  · exact dir_enough (c := cMark false [x.a] c) (bkV_dir h h)
theorem dir_call {N T K E : Nat} {x : StepA} {c : CSt} (h : c.v.dir = []) : (cCall false N T K E x c).2.2.v.dir = [] := by
  unfold cCall
  split
  · exact h
  split
  · exact h
  split
  · have hd : delA c.v x.id = (c.v, 10) := by unfold delA; rw [h]; rfl
    unfold cDel
    rw [hd]
    exact bkV_dir h h
  split
  · exact h
  split
  · exact h
  split
  · exact dir_start (c := cNew x.kind c) h
  · exact h
end Go.Proofs.Ytaikdcnifijcoaa
set_option linter.unusedVariables false
set_option linter.unusedSimpArgs false
namespace Go.Proofs.Ytaikdcnifijcoaa
open Go Go.Vc Go.Gf
/-- A book that was seen. -/
structure WasRo (A : Heap) (O : Ow) (v : BookA) (k : BookS) : Prop where
  dir : RoH A O k.dir v.dir
  up : RoF Value.bool false A O k.up v.up
  com : RoF IV 0 A O k.com v.commit
theorem WasRo.step {S : Nat → Prop} {A B : Heap} {OA OB : Ow} {v : BookA} {k : BookS} (h : WasRo A OA v k) (st : Step S A OA B OB) (h0 : ¬ S 0) : WasRo B OB v k := ⟨h.dir.step st h0, h.up.step st h0, h.com.step st h0⟩
theorem WasRo.inn {A : Heap} {O : Ow} {v : BookA} {k : BookS} (h : WasRo A O v k) : BookIn A v k := ⟨h.dir.row, h.up.row, h.com.row⟩
theorem WasRo.ext {A B : Heap} {O : Ow} {v : BookA} {k : BookS} (h : WasRo A O v k) (x : Ext A B) : WasRo B O v k := ⟨h.dir.ext x, h.up.ext x, h.com.ext x⟩
theorem goodP_nat {N T K E R : Int} (hg : GoodP N T K E R) : ∃ n t k e r : Nat, N = n ∧ T = t ∧ K = k ∧ E = e ∧ R = r ∧ n ≤ 255 ∧ 1 ≤ t ∧ t ≤ 255 ∧ k ≤ 255 ∧ e ≤ 255 := by
  obtain ⟨g1, g2, g3, g4, g5, g6, g7⟩ := hg
  have q0 := g1 0 (by omega)
  have q1 := g1 1 (by omega)
  have q2 := g1 2 (by omega)
  have q3' := g1 3 (by omega)
  simp only [List.getD_cons_zero, List.getD_cons_succ] at q0 q1 q2 q3'
  obtain ⟨n, rfl⟩ := Int.eq_ofNat_of_zero_le q0.1
  obtain ⟨t, rfl⟩ := Int.eq_ofNat_of_zero_le q1.1
  obtain ⟨k, rfl⟩ := Int.eq_ofNat_of_zero_le q2.1
  obtain ⟨e, rfl⟩ := Int.eq_ofNat_of_zero_le q3'.1
  obtain ⟨r, rfl⟩ := Int.eq_ofNat_of_zero_le (show 0 ≤ R by omega)
  exact ⟨n, t, k, e, r, rfl, rfl, rfl, rfl, rfl, by omega, by omega, by omega, by omega, by omega⟩
theorem out21x {H A : Heap} (x : Ext H A) : CallsH Try.prog 5 [] A fun v H' => v = .bool true ∧ Ext H H' :=
  (answers21_ok A).mono fun v H' h => ⟨h.1, x.trans h.2⟩
/-- What was there ahead of a coordinator is not its struct. -/
theorem not_co {H A : Heap} {OA : Ow} {cb : Nat} {S : Nat → Prop} (st : Step S H (fun _ => 0) A OA) (ho : OA cb = 1) {s : Sl} {l : List UInt8} (hx : Bytes H s l) : 0 < s.len → ∀ b, s.blk = some b → b ≠ cb := fun hp b hb e => by
  subst e
  have := st.agr b (RowF.lt hx hp b hb)
  rw [ho] at this
  cases this
end Go.Proofs.Ytaikdcnifijcoaa
