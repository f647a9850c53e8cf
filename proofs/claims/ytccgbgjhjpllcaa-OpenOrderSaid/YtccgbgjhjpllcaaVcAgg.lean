/-
  The calculus, part 9: structs, built and boxed.
-/
import Derived.Test.YtccgbgjhjpllcaaVcMore
import Derived.Laws.IdiomCopy
set_option linter.unusedVariables false
set_option linter.unusedSimpArgs false
namespace Go.Vc
section
variable {C : Cx} {ops : Array Oper} {l : List Oper} {L : Env} {ds : List Nat} {H : Heap} {Kk : Env → Heap → Prop} {o : Oper}
theorem RegS.build [Tbl C.P] {t d sz bt : Nat} {ps : List (Nat × Operand)} {vs : List (Nat × Value)} {dd : TypeDesc} {z : Value} {cs : List Value} (k : RegS C ops l ((d, .agg cs.toArray) :: L) ds H Kk)
    (ho : o.op = .build t ps.toArray := by rfl) (hp : pvi L ps = some vs := by rfl) (ht : ty C.P t = some ⟨dd, sz, bt, z⟩ := by rfl) (hc : IsL (built (offsOf dd) (cellsL z) vs) cs := by repeat (first | exact IsL.nil | apply IsL.cons))
    (h : ∀ w, (Instr.build t vs.toArray).run C.P w = .ok (.agg cs.toArray) w := by intro w; kernel_rfl)
    (hds : o.dst = some d := by rfl) (hg : gd ops o L = some true := by rfl) (hd : Nat.blt d C.N = true := by rfl) : RegS C ops (o :: l) L ds H Kk :=
  RegS.rd hg (by rw [hds]; exact hd) (Rd.buildL ho hp h) (by rw [hds]; exact k)
theorem RegS.boxA {t d : Nat} {x : Operand} {cs : List Value} (k : ∀ H', Ext H H' → H'.size = H.size + 1 → Blk H' H.size t cs → RegS C ops l ((d, .pointer (some ⟨H.size, 0, none⟩)) :: L) ds H' Kk)
    (ho : o.op = .box t x := by rfl) (hx : L.ev x = some (.agg cs.toArray) := by rfl) (hds : o.dst = some d := by rfl) (hg : gd ops o L = some true := by rfl) (hd : Nat.blt d C.N = true := by rfl) : RegS C ops (o :: l) L ds H Kk :=
  RegS.ef hg (by rw [hds]; exact hd) (Ef.box ho hx (by rw [hds]; exact k _ (Ext.push _ _) (by simp) ⟨by rw [Array.getElem?_push, if_pos rfl]; rfl⟩))
theorem RegS.allocA [Tbl C.P] {t d sz bt : Nat} {dd : TypeDesc} {z : Value} {cs : List Value} (k : ∀ H', Ext H H' → H'.size = H.size + 1 → Blk H' H.size t cs → RegS C ops l ((d, .pointer (some ⟨H.size, 0, none⟩)) :: L) ds H' Kk)
    (ho : o.op = .alloc t := by rfl) (ht : ty C.P t = some ⟨dd, sz, bt, z⟩ := by rfl) (hc : z = .agg cs.toArray := by rfl) (hds : o.dst = some d := by rfl) (hg : gd ops o L = some true := by rfl) (hd : Nat.blt d C.N = true := by rfl) : RegS C ops (o :: l) L ds H Kk :=
  RegS.ef hg (by rw [hds]; exact hd) (Ef.alloc ho ht (by rw [hds]; exact k _ (Ext.push _ _) (by simp) ⟨by rw [Array.getElem?_push, if_pos rfl, hc]; rfl⟩))
end
/-! ### Whole structs, written -/
def hsets (H : Heap) (b : Nat) : Nat → List Value → Heap
  | _, [] => H
  | o, v :: r => hsets (hset H ⟨b, o, none⟩ v) b (o + 1) r
theorem setCells_heap (b : Nat) : ∀ (vs : List Value) (o : Nat) (w : World), (w.setCells b o vs).heap = hsets w.heap b o vs
  | [], _, _ => rfl
  | v :: r, o, w => by rw [World.setCells, setCells_heap b r, hsets, setCell_heap]
theorem setCells_sim (b : Nat) : ∀ (vs : List Value) (o : Nat) (w : World), Sim w (w.setCells b o vs)
  | [], _, w => Sim.refl w
  | v :: r, o, w => by
    have := setCells_sim b r (o + 1) (w.setCell ⟨b, o, none⟩ v)
    exact ⟨this.os, this.tape, this.output⟩
theorem hsets_chg (b : Nat) : ∀ (vs : List Value) (o : Nat) (H : Heap), Chg (· = b) H (hsets H b o vs)
  | [], _, H => Chg.refl _ _
  | v :: r, o, H => (hset_chg H ⟨b, o, none⟩ v).trans (hsets_chg b r (o + 1) _)
theorem hsets_size (b : Nat) : ∀ (vs : List Value) (o : Nat) (H : Heap), (hsets H b o vs).size = H.size
  | [], _, H => rfl
  | v :: r, o, H => by rw [hsets, hsets_size b r, hset_size]
/-- Cells from a place on, put one by one. -/
def puts : List Value → Nat → List Value → List Value
  | cs, _, [] => cs
  | cs, o, v :: r => puts (cs.set o v) (o + 1) r
theorem Blk.sets {b : Nat} {e : TypeId} : ∀ (us : List Value) (o : Nat) {H : Heap} {vs : List Value}, Blk H b e vs → Blk (hsets H b o us) b e (puts vs o us)
  | [], _, _, _, h => h
  | v :: r, o, H, vs, h => Blk.sets r (o + 1) (Blk.set (j := o) (v := v) h)
theorem oneCell_of {v : Value} (h : oneCell v = true) : v.oneCell' = true := by cases v <;> simp_all [oneCell, Value.oneCell']
theorem Ef.storeA {C : Cx} {L : Env} {H : Heap} {o : Oper} [Tbl C.P] {t n bt b j e : Nat} {x y : Operand} {d : TypeDesc} {z : Value} {us vs : List Value} {K : Value → Heap → Prop} (ho : o.op = .store t x y) (hx : L.ev x = some (.pointer (some ⟨b, j, none⟩))) (hy : L.ev y = some (.agg us.toArray))
    (ht : ty C.P t = some ⟨d, n, bt, z⟩) (h1 : allOne us = true) (hn : Nat.beq us.length n = true) (hb : Blk H b e vs) (hl : Nat.ble (j + us.length) vs.length = true) (hk : K undef (hsets H b j us)) : Ef C o L H K :=
  Ef.of (by rw [ho]; rfl) fun act w ha hw => by
    have e1 := agr_of ha hx (by rw [ho]; simp [Op.operands])
    have e2 := agr_of ha hy (by rw [ho]; simp [Op.operands])
    subst hw
    have hnn := Nat.eq_of_beq_eq_true hn
    have hll := Nat.le_of_ble_eq_true hl
    have hst := run_storeCells_cells (P := C.P) b j us 0 w (fun i hi => by
        rw [show w.cell? ⟨b, j + 0 + i, none⟩ = hcell w.heap ⟨b, j + 0 + i, none⟩ from rfl, blk_cell hb.at_]
        simp; omega) (fun i hi => blk_free hb.at_) (fun v hv => oneCell_of (allOne_spec h1 v hv))
    refine .inr ⟨w.setCells b j us, ?_, setCells_sim b us j w, by rw [setCells_heap]; exact hk⟩
    rw [Nat.add_zero] at hst
    have hsz : (us.toArray.size ≠ n) = False := by simp [hnn]
    simp only [execOp, ho, e1, e2, Instr.storeAt, Instr.sureAddr, storeVar, Sem.run_bind, Sem.run_pure, ty.sizeOf ht, Result.andThen, Value.cells, hsz, if_false, hst]
section
variable {C : Cx} {ops : Array Oper} {l : List Oper} {L : Env} {ds : List Nat} {H : Heap} {Kk : Env → Heap → Prop} {o : Oper} {B : Array Nat} {p : Plan} {pend : List Rec}
theorem RegS.storeA [Tbl C.P] {t n bt b j e : Nat} {x y : Operand} {d : TypeDesc} {z : Value} {us vs : List Value} (hb : Blk H b e vs) (k : RegS C ops l L ds (hsets H b j us) Kk)
    (ho : o.op = .store t x y := by rfl) (hx : L.ev x = some (.pointer (some ⟨b, j, none⟩)) := by rfl) (hy : L.ev y = some (.agg us.toArray) := by rfl) (ht : ty C.P t = some ⟨d, n, bt, z⟩ := by rfl) (h1 : allOne us = true := by rfl) (hn : Nat.beq us.length n = true := by rfl) (hl : Nat.ble (j + us.length) vs.length = true := by rfl) (hds : o.dst = none := by rfl) (hg : gd ops o L = some true := by rfl) : RegS C ops (o :: l) L ds H Kk :=
  RegS.ef hg (by rw [hds]; rfl) (Ef.storeA ho hx hy ht h1 hn hb hl (by rw [hds]; exact k))
theorem RegP.storeA [Tbl C.P] {i t n bt b j e : Nat} {keep : List Nat} {x y : Operand} {d : TypeDesc} {z : Value} {us vs : List Value} (hb : Blk H b e vs) (hp : Proms C ops (hsets H b j us) (pfilter keep pend)) (k : RegP C ops B p (pfilter keep pend) L ds (hsets H b j us) Kk)
    (hi : ops[i]? = some o := by rfl) (ho : o.op = .store t x y := by rfl) (hx : L.ev x = some (.pointer (some ⟨b, j, none⟩)) := by rfl) (hy : L.ev y = some (.agg us.toArray) := by rfl) (ht : ty C.P t = some ⟨d, n, bt, z⟩ := by rfl) (h1 : allOne us = true := by rfl) (hn : Nat.beq us.length n = true := by rfl) (hl : Nat.ble (j + us.length) vs.length = true := by rfl) (hds : o.dst = none := by rfl) (hg : gd ops o L = some true := by rfl) : RegP C ops B (.e i keep p .nil) pend L ds H Kk :=
  RegP.ef (Ef.storeA ho hx hy ht h1 hn hb hl (by rw [hds]; exact ⟨.inr hp, k⟩)) hi hg (by rw [hds]; rfl)
end
end Go.Vc
