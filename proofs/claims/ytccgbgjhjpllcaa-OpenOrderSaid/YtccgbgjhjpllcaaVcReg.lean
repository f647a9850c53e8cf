/-
  The calculus, part 2: the operations of one statement. In the text's order (RegS); in whatever order (RegB).
-/
import Derived.Test.YtccgbgjhjpllcaaVcBase
set_option linter.unusedVariables false
set_option linter.unusedSimpArgs false
namespace Go.Vc

/-- Every block of H is in H' what it was. -/
structure Ext (H H' : Heap) : Prop where
  size : H.size ≤ H'.size
  get : ∀ b, b < H.size → H'[b]? = H[b]?
theorem Ext.refl (H : Heap) : Ext H H := ⟨Nat.le_refl _, fun _ _ => rfl⟩
theorem Ext.trans {A B D : Heap} (h : Ext A B) (k : Ext B D) : Ext A D :=
  ⟨Nat.le_trans h.size k.size, fun b hb => (k.get b (Nat.lt_of_lt_of_le hb h.size)).trans (h.get b hb)⟩
theorem Ext.push (H : Heap) (o : Obj) : Ext H (H.push o) :=
  ⟨by simp, fun b hb => by rw [Array.getElem?_push, if_neg (by omega)]⟩
theorem Ext.blk {H H' : Heap} (h : Ext H H') {b : Nat} {o : Obj} (hb : H[b]? = some o) : H'[b]? = some o :=
  (h.get b (Array.getElem?_eq_some_iff.1 hb).1).trans hb

def Op.isDefer : Op → Bool
  | .defer _ => true
  | _ => false

/-- What the frame shows of the operation's operands is at least what L tells. -/
def Agr (o : Oper) (L : Env) (a : Act) : Prop := ∀ x ∈ o.op.operands, ∀ u, L.ev x = some u → a.eval x = u
theorem Knows.agr {N : Nat} {L : Env} {ds : List Nat} {a : Act} (h : Knows N L ds a) (o : Oper) : Agr o L a := fun _ _ _ hu => h.ev hu

/-- The operation yields v and turns nothing, over H and over whatever H grows to. -/
structure Rd (C : Cx) (o : Oper) (L : Env) (H : Heap) (v : Value) : Prop where
  nd : Op.isDefer o.op = false
  run : ∀ H', Ext H H' → ∀ a w, w.heap = H' → Agr o L a → (execOp a.eval o).run C.P w = .ok (.value v) w
theorem Rd.ext {C : Cx} {o : Oper} {L : Env} {H H' : Heap} {v : Value} (h : Rd C o L H v) (e : Ext H H') : Rd C o L H' v :=
  ⟨h.nd, fun _ e' a w hw ha => h.run _ (e.trans e') a w hw ha⟩

/-- The operation may turn the heap: K tells of what it yields and leaves. -/
structure Ef (C : Cx) (o : Oper) (L : Env) (H : Heap) (K : Value → Heap → Prop) : Prop where
  nd : Op.isDefer o.op = false
  run : ∀ a w, Sim C.u w → w.heap = H → Agr o L a → ∀ (next : Act → World → Prop) (Q : Exit → Act → World → Prop),
    (∀ v w', Sim C.u w' → K v w'.heap → next (a.put o.dst v) w') → o.uponIn (FW C.ρ) 0 C.P a next Q ((execOp a.eval o).run C.P w)
theorem Ef.mono {C : Cx} {o : Oper} {L : Env} {H : Heap} {K K' : Value → Heap → Prop} (h : Ef C o L H K) (hk : ∀ v H, K v H → K' v H) : Ef C o L H K' :=
  ⟨h.nd, fun a w s hw ha next Q hn => h.run a w s hw ha next Q fun v w' s' k => hn v w' s' (hk _ _ k)⟩
theorem Rd.ef {C : Cx} {o : Oper} {L : Env} {H : Heap} {v : Value} {K : Value → Heap → Prop} (h : Rd C o L H v) (k : K v H) : Ef C o L H K :=
  ⟨h.nd, fun a w s hw ha next Q hn => by
    rw [h.run H (Ext.refl _) a w hw ha]
    exact hn v w s (hw ▸ k)⟩

theorem semAt_plain {o : Oper} (h : Op.isDefer o.op = false) (ρ : Option Nat) (f : Operand → Value) : o.semAt ρ f = execOp f o :=
  Oper.semAt_eq ρ f o fun c e => by rw [e] at h; cases h
theorem FW_round (ρ : Option Nat) : (FW ρ).round = ρ := rfl
theorem FW_fn (ρ : Option Nat) (f : FuncId) : (FW ρ).fn f := trivial

/-- Does the operation's guard let it by? -/
def gd (ops : Array Oper) (o : Oper) (L : Env) : Option Bool :=
  match o.guard with
  | none => some true
  | some (j, want) =>
    match (ops[j]?).bind (·.dst) with
    | none => some false
    | some d =>
      match L.get d with
      | some (.bool b) => some (b == want)
      | some (.tuple _) => some false
      | _ => none
theorem gd_spec {ops : Array Oper} {o : Oper} {L : Env} {N : Nat} {ds : List Nat} {a : Act} {b : Bool} (h : gd ops o L = some b)
    (k : ∀ j w d, o.guard = some (j, w) → (ops[j]?).bind (·.dst) = some d → ∀ u, L.get d = some u → a.tmps[d]? = some u) : Region.wanted o (yielded ops a.tmps) = b := by
  unfold gd at h
  unfold Region.wanted
  cases hg : o.guard with
  | none => rw [hg] at h; simpa using h
  | some p =>
    obtain ⟨j, want⟩ := p
    rw [hg] at h
    simp only at h ⊢
    cases hd : (ops[j]?).bind (·.dst) with
    | none =>
      rw [hd] at h
      simp only [Option.some.injEq] at h
      subst h
      simp [yielded, hd]
    | some d =>
      rw [hd] at h
      simp only at h
      cases hl : L.get d with
      | none => rw [hl] at h; simp at h
      | some u =>
        rw [hl] at h
        have ht := k j want d hg hd u hl
        cases u <;> simp at h
        · subst h; simp [yielded, hd, ht]
        · subst h; simp [yielded, hd, ht]

/-- The rest of a statement's operations, in the text's order. -/
structure RegS (C : Cx) (ops : Array Oper) (l : List Oper) (L : Env) (ds : List Nat) (H : Heap) (K : Env → Heap → Prop) : Prop where
  out : ∀ a w, Sim C.u w → w.heap = H → Knows C.N L ds a →
    wpListIn (FW C.ρ) 0 C.P ops (fun e a' w' => match e with | .normal => Sim C.u w' ∧ ∃ L', Knows C.N L' ds a' ∧ K L' w'.heap | _ => False) l a w

section
variable {C : Cx} {ops : Array Oper} {l : List Oper} {L : Env} {ds : List Nat} {H : Heap} {K : Env → Heap → Prop} {o : Oper}

theorem RegS.nil (h : K L H) : RegS C ops [] L ds H K := ⟨fun a w s hw k => ⟨s, L, k, hw ▸ h⟩⟩

def dstOk (N : Nat) : Option Nat → Bool
  | none => true
  | some d => Nat.blt d N
theorem dstOk_spec {N : Nat} {d : Option Nat} (h : dstOk N d = true) : ∀ k, d = some k → k < N := fun k e => by
  subst e
  exact Nat.le_of_ble_eq_true h

theorem RegS.ef (hg : gd ops o L = some true) (hd : dstOk C.N o.dst = true)
    (h : Ef C o L H (fun v H' => RegS C ops l (L.putO o.dst v) ds H' K)) : RegS C ops (o :: l) L ds H K := by
  refine ⟨fun a w s hw k => ?_⟩
  have hwan := gd_spec (N := C.N) (ds := ds) (a := a) hg (fun _ _ _ _ _ u hu => k.get' hu)
  simp only [wpListIn, hwan, if_true, Oper.wpIn]
  refine ⟨fun _ _ => FW_fn _ _, ?_⟩
  rw [FW_round, semAt_plain h.nd]
  exact h.run a w s hw (k.agr o) _ _ fun v w' s' kk => kk.out _ w' s' rfl (k.putO _ _ (dstOk_spec hd))
theorem RegS.rd {v : Value} (hg : gd ops o L = some true) (hd : dstOk C.N o.dst = true) (h : Rd C o L H v) (k : RegS C ops l (L.putO o.dst v) ds H K) : RegS C ops (o :: l) L ds H K :=
  RegS.ef hg hd (h.ef k)
theorem RegS.skip (hg : gd ops o L = some false) (hd : dstOk C.N o.dst = true) (k : RegS C ops l (L.putO o.dst undef) ds H K) : RegS C ops (o :: l) L ds H K := by
  refine ⟨fun a w s hw kn => ?_⟩
  have hwan := gd_spec (N := C.N) (ds := ds) (a := a) hg (fun _ _ _ _ _ u hu => kn.get' hu)
  simp only [wpListIn, hwan, Bool.false_eq_true, if_false]
  exact ⟨fun _ _ => FW_fn _ _, k.out _ w s hw (kn.putO _ _ (dstOk_spec hd))⟩
/-- A guard that is not decided yet: both ways. -/
theorem RegS.split {j : Nat} {want : Bool} {d : Nat} {b : Bool} (hg : o.guard = some (j, want)) (hj : (ops[j]?).bind (·.dst) = some d) (hd : L.get d = some (.bool b))
    (ht : b = true → RegS C ops (o :: l) (L.put d (.bool true)) ds H K) (hf : b = false → RegS C ops (o :: l) (L.put d (.bool false)) ds H K) : RegS C ops (o :: l) L ds H K := by
  refine ⟨fun a w s hw k => ?_⟩
  have key : ∀ c, b = c → Knows C.N (L.put d (.bool c)) ds a := fun c e => by
    refine k.weaken fun n u hu => ?_
    rcases Env.get_put_some hu with ⟨rfl, rfl⟩ | ⟨_, hu⟩
    · exact e ▸ hd
    · exact hu
  cases b with
  | true => exact (ht rfl).out a w s hw (key _ rfl)
  | false => exact (hf rfl).out a w s hw (key _ rfl)
theorem RegS.split_p {j : Nat} {want : Bool} {d : Nat} {p : Prop} (hg : o.guard = some (j, want)) (hj : (ops[j]?).bind (·.dst) = some d) (hd : L.get d = some (.bool (dec p)))
    (ht : p → RegS C ops (o :: l) (L.put d (.bool true)) ds H K) (hf : ¬p → RegS C ops (o :: l) (L.put d (.bool false)) ds H K) : RegS C ops (o :: l) L ds H K :=
  RegS.split hg hj hd (fun h => ht (of_dec h)) (fun h => hf (of_not_dec h))

theorem Wp.region {id : Nat} {l : List Oper} {Q : QPost} (h : RegS C l.toArray l L ds H (endK C Q ds)) :
    Wp C (.region id l.toArray false) Q L ds H :=
  ⟨fun a w s hw k => wpIn_region_lit (by
    have := h.out a w s hw k
    revert this
    generalize hq : (fun (e : Exit) (a' : Act) (w' : World) => match e with | .normal => Sim C.u w' ∧ ∃ L', Knows C.N L' ds a' ∧ endK C Q ds L' w'.heap | _ => False) = Q1
    intro this
    have mono : ∀ (l' : List Oper) (a : Act) (w : World), wpListIn (FW C.ρ) 0 C.P l.toArray Q1 l' a w →
        wpListIn (FW C.ρ) 0 C.P l.toArray (fun e a' w' => Sim C.u w' ∧ ∃ L' ds', Knows C.N L' ds' a' ∧ Q e L' ds' w'.heap) l' a w := by
      have hQ : ∀ e a w, Q1 e a w → (Sim C.u w ∧ ∃ L' ds', Knows C.N L' ds' a ∧ Q e L' ds' w.heap) := by
        subst hq
        intro e a w h
        cases e <;> first | exact h.elim | exact ⟨h.1, _, _, h.2.choose_spec.1.keep C.X, endK_out h.2.choose_spec.2⟩
      intro l'
      induction l' with
      | nil => intro a w h; exact hQ _ _ _ h
      | cons o l' ih =>
        intro a w h
        simp only [wpListIn] at h ⊢
        split
        · rename_i hw
          rw [if_pos hw] at h
          refine ⟨h.1, ?_⟩
          have h2 := h.2
          revert h2
          generalize (o.semAt (FW C.ρ).round a.eval).run C.P w = r
          intro h2
          cases r with
          | ok n w' =>
            cases n <;> simp only [Oper.uponIn] at h2 ⊢ <;>
              first
                | exact ih _ _ h2
                | exact ⟨h2.1, CallsIn.mono h2.2 (fun e w'' he => by cases e <;> first | exact ih _ _ he | exact hQ _ _ _ he | exact (let ⟨a, w, q⟩ := he; ⟨a, w, hQ _ _ _ q⟩))⟩
                | exact ⟨h2.1, RowsIn.mono h2.2 (fun _ _ he => ih _ _ he)⟩
                | exact ⟨h2.1, RoundIn.mono h2.2 (fun e w'' he => by cases e <;> first | exact ih _ _ he | exact hQ _ _ _ he | exact (let ⟨a, w, q⟩ := he; ⟨a, w, hQ _ _ _ q⟩))⟩
          | halt x w' => cases x <;> simp only [Oper.uponIn] at h2 ⊢ <;> exact hQ _ _ _ h2
        · rename_i hw
          rw [if_neg hw] at h
          exact ⟨h.1, ih _ _ h.2⟩
    exact mono _ _ _ this)⟩
end
end Go.Vc
