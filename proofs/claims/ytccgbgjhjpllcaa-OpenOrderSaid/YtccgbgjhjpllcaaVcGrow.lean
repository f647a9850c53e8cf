/-
  The calculus, part 11: append(nil, make([]T, n)...).
-/
import Derived.Test.YtccgbgjhjpllcaaVcMore
import Derived.Lib.AppendZeros
import Derived.Laws.AppendOwn
set_option linter.unusedVariables false
set_option linter.unusedSimpArgs false
namespace Go.Vc
theorem Rd.cap {C : Cx} {o : Oper} {L : Env} {H : Heap} [Tbl C.P] {x : Operand} {t : Nat} {s : Sl} {i : TI} {e : Nat} (ho : o.op = .call { callee := .builtin .cap, args := #[x], argTypes := #[t] }) (hx : L.ev x = some s.val)
    (ht : ty C.P t = some i) (hi : i.desc = .slice e) : Rd C o L H (.int .i64 (s.cap : Int)) :=
  Rd.of (by rw [ho]; rfl) fun act w ha ex => by
    have h1 := agr_of ha hx (by rw [ho]; simp [Op.operands, Call.operands])
    simp only [Sl.val] at h1
    simp [execOp, ho, resolve, invoke, builtin, h1, Builtin.cap_, Sem.run_bind, ty.und ht, Result.andThen, hi, goInt, Sem.run]
theorem RegS.cap {C : Cx} {ops : Array Oper} {l : List Oper} {L : Env} {ds : List Nat} {H : Heap} {Kk : Env → Heap → Prop} {o : Oper} [Tbl C.P] {x : Operand} {t d e : Nat} {s : Sl} {i : TI} (k : RegS C ops l ((d, .int .i64 (s.cap : Int)) :: L) ds H Kk)
    (ho : o.op = .call { callee := .builtin .cap, args := #[x], argTypes := #[t] } := by rfl) (hx : L.ev x = some s.val := by rfl)
    (ht : ty C.P t = some i := by rfl) (hi : i.desc = .slice e := by rfl) (hds : o.dst = some d := by rfl) (hg : gd ops o L = some true := by rfl) (hd : Nat.blt d C.N = true := by rfl) : RegS C ops (o :: l) L ds H Kk :=
  RegS.rd hg (by rw [hds]; exact hd) (Rd.cap ho hx ht hi) (by rw [hds]; exact k)
theorem zeroCells_size {z : Value} (hz : oneCell z = true) (n : Nat) : (Builtin.zeroCells z.cells n).size = n := by
  rw [oneCell_cells hz]; simp [Builtin.zeroCells]
theorem OwnR.cut0 {H : Heap} {base : Nat} {e : TypeId} {s : Sl} {xs : List Value} (h : OwnR H base e 1 s xs) (hh : 0 ≤ 0 ∧ 0 ≤ s.cap ∧ s.cap ≤ s.cap) : OwnR H base e 1 (s.cut 0 0 s.cap) [] ∧ (s.cut 0 0 s.cap).blk = s.blk := by
  obtain ⟨h1, h2⟩ := h
  rcases h2 with h2 | ⟨g, cur, ha, hb, hg, hl, hm, hc, ht⟩
  · exact ⟨⟨by simp [Sl.cut], .inl (by simp [Sl.cut, h2])⟩, by simp [Sl.cut, Sl.blk, h2]⟩
  · refine ⟨⟨by simp [Sl.cut], .inr ⟨g, cur, ?_, hb, hg, by simp [Sl.cut], by simp [Sl.cut]; exact hm, by simp [Sl.cut]; simpa using hc, by simp [Sl.cut]⟩⟩, ?_⟩
    · simp [Sl.cut, ha, Addr.add]
    · simp [Sl.cut, Sl.blk, ha, Addr.add]
theorem Ef.appendZeros {C : Cx} {o : Oper} {L : Env} {H : Heap} [Tbl C.P] {t tn e sz bt bytes sz' bt' n : Nat} {z z' zn : Value} {d : TypeDesc} {k kn : IntKind} {x y : Operand} {K : Value → Heap → Prop}
    (ho : o.op = .call { callee := .builtin .append, args := #[x, y], argTypes := #[t, tn] }) (hx : L.ev x = some (.slice none 0 0)) (hy : L.ev y = some (.int k (n : Int)))
    (ht : ty C.P t = some ⟨.slice e, sz, bt, z⟩) (htn : ty C.P tn = some ⟨.int kn, sz', bt', zn⟩) (he : ty C.P e = some ⟨d, 1, bytes, z'⟩) (hz : oneCell z' = true) (h0 : 0 < n) (hn : n ≤ 140737488355328) (hb : n * bytes ≤ 140737488355328)
    (hk : ∀ (s' : Sl) (H' : Heap), OwnR H' H.size e 1 s' (List.replicate n z') → Ext H H' → K s'.val H') : Ef C o L H K :=
  Ef.of (by rw [ho]; rfl) fun act w ha hw => by
    have e1 := agr_of ha hx (by rw [ho]; simp [Op.operands, Call.operands])
    have e2 := agr_of ha hy (by rw [ho]; simp [Op.operands, Call.operands])
    subst hw
    obtain ⟨i, hi, hz1, hs1, hb1⟩ := ty.info he
    have hrun := Lib.run_append_nil_zeros (P := C.P) w t tn o.type e i z' k kn (Tbl.ok.find ht).1 (Tbl.ok.find htn).1 hi hz1 n h0 (by rw [hs1]; exact Nat.one_pos) (by omega) (by rw [hb1]; exact Nat.le_trans hb (by omega))
    have hge := grownCap_ge w n 0 e
    have hmx := grownCap_le_maxLen w n 0 e (by unfold maxLen; omega)
    have h1 := zeroCells_size hz n
    have h2 := zeroCells_size hz (grownCap w n 0 e - n)
    refine .inl ⟨_, w.drew.alloc (.cells (Builtin.zeroCells z'.cells n ++ Builtin.zeroCells z'.cells (grownCap w n 0 e - n)) e), ?_, ⟨rfl, rfl, rfl⟩, hk ⟨some ⟨w.heap.size, 0, none⟩, n, grownCap w n 0 e, fun h => (by cases h), hge⟩ _ ⟨by simp, .inr ⟨w.heap.size, _, rfl, Nat.le_refl _, Array.getElem?_push_size, hge, hmx, ?_, ?_⟩⟩ (Ext.push w.heap _)⟩
    · simp [execOp, ho, resolve, invoke, builtin, e1, e2, hrun, Result.andThen, Sem.run_bind, Sem.run]
      rfl
    · simp [h1, h2]; omega
    · rw [Array.toList_append, Nat.mul_one]
      rw [List.take_left' (by simp [h1])]
      rw [oneCell_cells hz]
      simp [Builtin.zeroCells]
      refine List.ext_getElem (by simp) fun j _ _ => by simp [Nat.mod_one]
section
variable {C : Cx} {ops : Array Oper} {l : List Oper} {L : Env} {ds : List Nat} {H : Heap} {Kk : Env → Heap → Prop} {o : Oper}
theorem RegS.appendZeros [Tbl C.P] {t tn e sz bt bytes sz' bt' n dst : Nat} {z z' zn : Value} {d : TypeDesc} {k kn : IntKind} {x y : Operand}
    (h0 : 0 < n) (hn : n ≤ 140737488355328) (hb : n * bytes ≤ 140737488355328)
    (q : ∀ (s' : Sl) (H' : Heap), OwnR H' H.size e 1 s' (List.replicate n z') → Ext H H' → RegS C ops l ((dst, s'.val) :: L) ds H' Kk)
    (ho : o.op = .call { callee := .builtin .append, args := #[x, y], argTypes := #[t, tn] } := by rfl) (hx : L.ev x = some (.slice none 0 0) := by rfl) (hy : L.ev y = some (.int k (n : Int)) := by rfl)
    (ht : ty C.P t = some ⟨.slice e, sz, bt, z⟩ := by rfl) (htn : ty C.P tn = some ⟨.int kn, sz', bt', zn⟩ := by rfl) (he : ty C.P e = some ⟨d, 1, bytes, z'⟩ := by rfl) (hz : oneCell z' = true := by rfl)
    (hds : o.dst = some dst := by rfl) (hg : gd ops o L = some true := by rfl) (hd : Nat.blt dst C.N = true := by rfl) : RegS C ops (o :: l) L ds H Kk :=
  RegS.ef hg (by rw [hds]; exact hd) (Ef.appendZeros ho hx hy ht htn he hz h0 hn hb fun s' H' h1 h2 => by rw [hds]; exact q s' H' h1 h2)
end
end Go.Vc
