/-
  The calculus, part 10: structs as values: their fields; whole structs read and written.
-/
import Derived.Test.YtccgbgjhjpllcaaVcOps
set_option linter.unusedVariables false
set_option linter.unusedSimpArgs false
namespace Go.Vc
def pvi (L : Env) : List (Nat × Operand) → Option (List (Nat × Value))
  | [] => some []
  | (i, x) :: r => match L.ev x, pvi L r with
    | some v, some vs => some ((i, v) :: vs)
    | _, _ => none
theorem pvi_spec {L : Env} {a : Act} : ∀ {ps : List (Nat × Operand)} {vs : List (Nat × Value)}, pvi L ps = some vs → (∀ p ∈ ps, ∀ u, L.ev p.2 = some u → a.eval p.2 = u) → ps.map (fun p => (p.1, a.eval p.2)) = vs
  | [], vs, h, _ => by simp [pvi] at h; subst h; rfl
  | (i, x) :: r, vs, h, ha => by
    simp only [pvi] at h
    split at h
    · rename_i v vs' h1 h2
      simp only [Option.some.injEq] at h
      subst h
      rw [List.map_cons, ha (i, x) List.mem_cons_self v h1, pvi_spec h2 fun p hp => ha p (List.mem_cons_of_mem _ hp)]
    · cases h
/-- Cells from a place on, put. -/
def splice : List Value → Nat → List Value → List Value
  | r, 0, vs => vs ++ r.drop vs.length
  | [], _ + 1, _ => []
  | x :: r, n + 1, vs => x :: splice r n vs
def cellsL : Value → List Value
  | .agg cs => cs.toList
  | v => [v]
/-- What is built, reckoned (the kernel holds it at the model's word). -/
def built (offs : Nat → Nat) : List Value → List (Nat × Value) → List Value
  | cs, [] => cs
  | cs, (i, v) :: r => built offs (splice cs (offs i) (cellsL v)) r
def offsOf : TypeDesc → Nat → Nat
  | .struct fs, i => ((fs.toList[i]?).map (·.offset)).getD 0
  | _, i => i
/-- A list, reckoned to its form. -/
inductive IsL : List Value → List Value → Prop
  | nil : IsL [] []
  | cons {v : Value} {r r' : List Value} : IsL r r' → IsL (v :: r) (v :: r')
theorem IsL.eq {A B : List Value} (h : IsL A B) : A = B := by
  induction h with
  | nil => rfl
  | cons _ ih => rw [ih]
theorem getElem?_toArray (cs : List Value) (n : Nat) : cs.toArray[n]? = cs[n]? := by simp
/-- So many cells from a place on. -/
def vcut : List Value → Nat → Nat → List Value
  | r, 0, n => vtake r n
  | [], _ + 1, _ => []
  | _ :: r, k + 1, n => vcut r k n
where vtake : List Value → Nat → List Value
  | _, 0 => []
  | [], _ + 1 => []
  | v :: r, n + 1 => v :: vtake r n
theorem vtake_eq : ∀ (l : List Value) (n : Nat), vcut.vtake l n = l.take n
  | _, 0 => by rw [vcut.vtake]; simp
  | [], n + 1 => by rw [vcut.vtake]; simp
  | v :: r, n + 1 => by rw [vcut.vtake, vtake_eq r n]; simp
theorem vcut_eq : ∀ (l : List Value) (k n : Nat), vcut l k n = (l.drop k).take n
  | l, 0, n => by cases l <;> rw [vcut, vtake_eq] <;> simp
  | [], k + 1, n => by rw [vcut]; simp
  | v :: r, k + 1, n => by rw [vcut, vcut_eq r k n]; simp
section
variable {C : Cx} {L : Env} {H : Heap} {o : Oper}
theorem Rd.buildL {t : Nat} {ps : List (Nat × Operand)} {vs : List (Nat × Value)} {r : Value} (ho : o.op = .build t ps.toArray) (hp : pvi L ps = some vs) (h : ∀ w, (Instr.build t vs.toArray).run C.P w = .ok r w) : Rd C o L H r :=
  Rd.of (by rw [ho]; rfl) fun act w ha ex => by
    have h1 := pvi_spec (a := act) hp fun p hp u hu => ha p.2 (by rw [ho]; simp [Op.operands]; exact ⟨_, hp⟩) u hu
    have h2 : Array.map (fun x : Nat × Operand => (x.fst, act.eval x.snd)) ps.toArray = vs.toArray := by rw [← h1]; simp
    simp only [execOp, ho, Sem.run_bind]
    rw [h2, h]
    rfl
theorem Rd.buildA [Tbl C.P] {t sz bt : Nat} {ps : List (Nat × Operand)} {vs : List (Nat × Value)} {dd : TypeDesc} {z : Value} {cs : List Value}
    (ho : o.op = .build t ps.toArray) (hp : pvi L ps = some vs) (ht : ty C.P t = some ⟨dd, sz, bt, z⟩) (hc : IsL (built (offsOf dd) (cellsL z) vs) cs)
    (h : ∀ w, (Instr.build t vs.toArray).run C.P w = .ok (.agg cs.toArray) w) : Rd C o L H (.agg cs.toArray) := Rd.buildL ho hp h
/-- len of the nil slice. -/
theorem Rd.lenNil [Tbl C.P] {x : Operand} {t : Nat} {i : TI} {e : Nat} (ho : o.op = .call { callee := .builtin .len, args := #[x], argTypes := #[t] }) (hx : L.ev x = some Sl.nil.val)
    (ht : ty C.P t = some i) (hi : i.desc = .slice e) : Rd C o L H (.int .i64 ((0 : Nat) : Int)) := Rd.len (s := Sl.nil) ho hx ht hi
/-- A field of one cell. -/
theorem Rd.field1 [Tbl C.P] {x : Operand} {t k : Nat} {cs : List Value} {sz bt sz' bt' : Nat} {z z' v : Value} {fs : Array Field} {fn fg fp : String} {ft off fb : Nat} {fe : Bool} {d : TypeDesc} (ho : o.op = .field t x k) (hx : L.ev x = some (.agg cs.toArray))
    (ht : ty C.P t = some ⟨.struct fs, sz, bt, z⟩) (hf : fs[k]? = some ⟨fn, ft, off, fe, fg, fp, fb⟩) (hj : ty C.P ft = some ⟨d, sz', bt', z'⟩) (hd : isAggD d = false) (hv : vget cs off = some v) : Rd C o L H v :=
  Rd.of (by rw [ho]; rfl) fun act w ha ex => by
    have h1 := agr_of ha hx (by rw [ho]; simp [Op.operands])
    rw [vget_eq] at hv
    have hag := ty.agg hj w
    rw [hd] at hag
    simp [execOp, ho, h1, Instr.field, Sem.run_bind, ty.und ht, Result.andThen, hf, asAgg, part, hag, hv, Sem.run]
/-- A field that is a struct. -/
theorem Rd.fieldA [Tbl C.P] {x : Operand} {t k : Nat} {cs vs : List Value} {sz bt sz' bt' : Nat} {z z' : Value} {fs : Array Field} {fn fg fp : String} {ft off fb : Nat} {fe : Bool} {d : TypeDesc} (ho : o.op = .field t x k) (hx : L.ev x = some (.agg cs.toArray))
    (ht : ty C.P t = some ⟨.struct fs, sz, bt, z⟩) (hf : fs[k]? = some ⟨fn, ft, off, fe, fg, fp, fb⟩) (hj : ty C.P ft = some ⟨d, sz', bt', z'⟩) (hd : isAggD d = true) (hv : IsL (vcut cs off sz') vs) : Rd C o L H (.agg vs.toArray) :=
  Rd.of (by rw [ho]; rfl) fun act w ha ex => by
    have h1 := agr_of ha hx (by rw [ho]; simp [Op.operands])
    have hag := ty.agg hj w
    rw [hd] at hag
    have hc : cs.toArray.extract off (off + sz') = vs.toArray := by
      rw [← hv.eq, vcut_eq]
      apply Array.ext'
      simp
    simp only [execOp, ho, h1, Instr.field, Sem.run_bind, ty.und ht, Result.andThen, hf, asAgg, part, hag, ty.sizeOf hj, Sem.run_pure, if_true, hc]
/-! ### Cells in a row -/
/-- The cells from an address on. -/
def hcells (H : Heap) (a : Addr) : List Value → Prop
  | [] => True
  | v :: r => hcell H a = some v ∧ hcells H (a.add 1) r
theorem run_loadCellsFrom {P : Program} {w : World} {a : Addr} : ∀ (vs : List Value) (i : Nat) (acc : Array Value), (∀ j, j < vs.length → ∃ v, vs[j]? = some v ∧ w.cell? (a.add (i + j)) = some v) → (loadCellsFrom a i vs.length acc).run P w = .ok (acc ++ vs.toArray) w
  | [], i, acc, _ => by simp [loadCellsFrom, Sem.run]
  | v :: vs, i, acc, h => by
    obtain ⟨v', h1, h2⟩ := h 0 (by simp)
    simp only [List.getElem?_cons_zero, Option.some.injEq] at h1
    subst h1
    rw [Nat.add_zero] at h2
    have := run_loadCellsFrom (P := P) (w := w) (a := a) vs (i + 1) (acc.push v) fun j hj => by
      obtain ⟨u, h3, h4⟩ := h (j + 1) (by simp; omega)
      refine ⟨u, by simpa using h3, ?_⟩
      rw [show i + 1 + j = i + (j + 1) by omega]; exact h4
    simp only [List.length_cons, loadCellsFrom, Sem.run_bind, Go.load, Sem.run, h2, Result.andThen]
    rw [this]
    simp
/-- A whole struct, read. -/
theorem Rd.loadA [Tbl C.P] {x : Operand} {t sz bt : Nat} {a : Addr} {d : TypeDesc} {z : Value} {vs : List Value} (ho : o.op = .load t x) (hx : L.ev x = some (.pointer (some a)))
    (ht : ty C.P t = some ⟨d, sz, bt, z⟩) (hd : isAggD d = true) (hn : Nat.beq sz vs.length = true) (hc : ∀ j, j < vs.length → ∃ v, vs[j]? = some v ∧ hcell H (a.add j) = some v) : Rd C o L H (.agg vs.toArray) :=
  Rd.of (by rw [ho]; rfl) fun act w ha ex => by
    have h1 := agr_of ha hx (by rw [ho]; simp [Op.operands])
    have hag := ty.agg ht w
    rw [hd] at hag
    have hsz := Nat.eq_of_beq_eq_true hn
    subst hsz
    have hl := run_loadCellsFrom (P := C.P) (w := w) (a := a) vs 0 #[] fun j hj => by
      obtain ⟨v, h2, h3⟩ := hc j hj
      exact ⟨v, h2, by rw [Nat.zero_add]; exact ex.cell h3⟩
    simp only [execOp, ho, h1, Instr.loadAt, Instr.sureAddr, loadVar, Sem.run_bind, Sem.run_pure, hag, Result.andThen, if_true, ty.sizeOf ht, loadCells, hl]
    simp
theorem Rd.loadBlk [Tbl C.P] {x : Operand} {t sz bt b j e : Nat} {d : TypeDesc} {z : Value} {us vs : List Value} (ho : o.op = .load t x) (hx : L.ev x = some (.pointer (some ⟨b, j, none⟩)))
    (ht : ty C.P t = some ⟨d, sz, bt, z⟩) (hd : isAggD d = true) (hb : Blk H b e us) (hv : IsL (vcut us j sz) vs) (hn : Nat.beq sz vs.length = true) : Rd C o L H (.agg vs.toArray) :=
  Rd.loadA ho hx ht hd hn fun i hi => by
    have hsz := Nat.eq_of_beq_eq_true hn
    have he := hv.eq
    rw [vcut_eq] at he
    refine ⟨vs[i], List.getElem?_eq_getElem hi, ?_⟩
    rw [add_plain, blk_cell hb.at_]
    have h2 : vs[i]? = some vs[i] := List.getElem?_eq_getElem hi
    have h3 : ((us.drop j).take sz)[i]? = some vs[i] := by rw [he]; exact h2
    rw [List.getElem?_take] at h3
    split at h3
    · rw [List.getElem?_drop] at h3; simpa using h3
    · cases h3
end
end Go.Vc
