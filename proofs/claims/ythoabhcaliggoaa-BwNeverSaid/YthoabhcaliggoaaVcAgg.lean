/-
  The calculus, part 9: structs, built and boxed.
-/
import Derived.Test.YthoabhcaliggoaaVcMore
set_option linter.unusedVariables false
set_option linter.unusedSimpArgs false
namespace Go.Vc
def pvi (L : Env) : List (Nat × Operand) → Option (List (Nat × Value))
  | [] => some []
  | (i, x) :: r => match L.ev x, pvi L r with
    | some v, some vs => some ((i, v) :: vs)
    | _, _ => none
theorem pvi_spec {L : Env} {a : Act} : ∀ {ps : List (Nat × Operand)} {vs : List (Nat × Value)}, pvi L ps = some vs → (∀ p ∈ ps, ∀ u, L.ev p.2 = some u → a.eval p.2 = u) → ps.map (fun p => (p.1, a.eval p.2)) = vs
  | [], vs, h, _ => by simp [pvi] at h; subst h; rfl
  | (i, x) :: r, vs, h, ha => by
    simp only [pvi] at h
    split at h
    · rename_i v vs' h1 h2
      simp only [Option.some.injEq] at h
      subst h
      rw [List.map_cons, ha (i, x) List.mem_cons_self v h1, pvi_spec h2 fun p hp => ha p (List.mem_cons_of_mem _ hp)]
    · cases h
/-- Cells from a place on, put. -/
def splice : List Value → Nat → List Value → List Value
  | r, 0, vs => vs ++ r.drop vs.length
  | [], _ + 1, _ => []
  | x :: r, n + 1, vs => x :: splice r n vs
def cellsL : Value → List Value
  | .agg cs => cs.toList
  | v => [v]
/-- What is built, reckoned (the kernel holds it at the model's word). -/
def built (offs : Nat → Nat) : List Value → List (Nat × Value) → List Value
  | cs, [] => cs
  | cs, (i, v) :: r => built offs (splice cs (offs i) (cellsL v)) r
def offsOf : TypeDesc → Nat → Nat
  | .struct fs, i => ((fs.toList[i]?).map (·.offset)).getD 0
  | _, i => i
/-- A list, reckoned to its form. -/
inductive IsL : List Value → List Value → Prop
  | nil : IsL [] []
  | cons {v : Value} {r r' : List Value} : IsL r r' → IsL (v :: r) (v :: r')
theorem IsL.eq {A B : List Value} (h : IsL A B) : A = B := by
  induction h with
  | nil => rfl
  | cons _ ih => rw [ih]
section
variable {C : Cx} {ops : Array Oper} {l : List Oper} {L : Env} {ds : List Nat} {H : Heap} {Kk : Env → Heap → Prop} {o : Oper}
theorem Rd.buildL {t : Nat} {ps : List (Nat × Operand)} {vs : List (Nat × Value)} {r : Value} (ho : o.op = .build t ps.toArray) (hp : pvi L ps = some vs) (h : ∀ w, (Instr.build t vs.toArray).run C.P w = .ok r w) : Rd C o L H r :=
  Rd.of (by rw [ho]; rfl) fun act w ha ex => by
    have h1 := pvi_spec (a := act) hp fun p hp u hu => ha p.2 (by rw [ho]; simp [Op.operands]; exact ⟨_, hp⟩) u hu
    have h2 : Array.map (fun x : Nat × Operand => (x.fst, act.eval x.snd)) ps.toArray = vs.toArray := by rw [← h1]; simp
    simp only [execOp, ho, Sem.run_bind]
    rw [h2, h]
    rfl
theorem RegS.build [Tbl C.P] {t d sz bt : Nat} {ps : List (Nat × Operand)} {vs : List (Nat × Value)} {dd : TypeDesc} {z : Value} {cs : List Value} (k : RegS C ops l ((d, .agg cs.toArray) :: L) ds H Kk)
    (ho : o.op = .build t ps.toArray := by rfl) (hp : pvi L ps = some vs := by rfl) (ht : ty C.P t = some ⟨dd, sz, bt, z⟩ := by rfl) (hc : IsL (built (offsOf dd) (cellsL z) vs) cs := by repeat (first | exact IsL.nil | apply IsL.cons))
    (h : ∀ w, (Instr.build t vs.toArray).run C.P w = .ok (.agg cs.toArray) w := by intro w; kernel_rfl)
    (hds : o.dst = some d := by rfl) (hg : gd ops o L = some true := by rfl) (hd : Nat.blt d C.N = true := by rfl) : RegS C ops (o :: l) L ds H Kk :=
  RegS.rd hg (by rw [hds]; exact hd) (Rd.buildL ho hp h) (by rw [hds]; exact k)
theorem RegS.boxA {t d : Nat} {x : Operand} {cs : List Value} (k : ∀ H', Ext H H' → H'.size = H.size + 1 → Blk H' H.size t cs → RegS C ops l ((d, .pointer (some ⟨H.size, 0, none⟩)) :: L) ds H' Kk)
    (ho : o.op = .box t x := by rfl) (hx : L.ev x = some (.agg cs.toArray) := by rfl) (hds : o.dst = some d := by rfl) (hg : gd ops o L = some true := by rfl) (hd : Nat.blt d C.N = true := by rfl) : RegS C ops (o :: l) L ds H Kk :=
  RegS.ef hg (by rw [hds]; exact hd) (Ef.box ho hx (by rw [hds]; exact k _ (Ext.push _ _) (by simp) ⟨by rw [Array.getElem?_push, if_pos rfl]; rfl⟩))
end
end Go.Vc
