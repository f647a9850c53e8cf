/-
  The calculus, part 18: steps that are taken without a word, more of them.
-/
import Derived.Test.YtaikdcnifijcoaaGreatQ11
set_option linter.unusedVariables false
set_option linter.unusedSimpArgs false
namespace Go.Vc
section
variable {C : Cx} {o : Oper} {L : Env} {H : Heap}
theorem Rd.lenH [Tbl C.P] {x : Operand} {t : Nat} {s : Sl} {i : TI} {e : Nat} {l : List HdT} (ho : o.op = .call { callee := .builtin .len, args := #[x], argTypes := #[t] }) (hx : L.ev x = some s.val)
    (ht : ty C.P t = some i) (hi : i.desc = .slice e) (hb : HRow H s l) : Rd C o L H (.int .i64 (l.length : Int)) := by
  rw [← hb.len]; exact Rd.len ho hx ht hi
theorem Rd.lenC [Tbl C.P] {β : Type} {n : Nat} {f : β → List Value} {dd : β} {x : Operand} {t : Nat} {s : Sl} {i : TI} {e : Nat} {l : List β} (ho : o.op = .call { callee := .builtin .len, args := #[x], argTypes := #[t] }) (hx : L.ev x = some s.val)
    (ht : ty C.P t = some i) (hi : i.desc = .slice e) (hb : CRow n f dd H s l) : Rd C o L H (.int .i64 (l.length : Int)) := by
  rw [← hb.len]; exact Rd.len ho hx ht hi
theorem Rd.indexH [Tbl C.P] {x y : Operand} {t e : Nat} {s : Sl} {n : Nat} {sz bt bt' : Nat} {z z' : Value} {d : TypeDesc} {l : List HdT} (ho : o.op = .indexAddr t x y) (hx : L.ev x = some s.val) (hy : L.ev y = some (.int .i64 (n : Int)))
    (ht : ty C.P t = some ⟨.slice e, sz, bt, z⟩) (hj : ty C.P e = some ⟨d, 2, bt', z'⟩) (hb : HRow H s l) (hn : n < l.length) : Rd C o L H (.pointer (some (s.cell (n * 2)))) :=
  Rd.indexAddr (C := C) (H := H) ho hx hy ht hj (by rw [hb.len]; exact hn)
theorem Rd.indexC [Tbl C.P] {β : Type} {k : Nat} {f : β → List Value} {dd : β} {x y : Operand} {t e : Nat} {s : Sl} {n : Nat} {sz bt bt' : Nat} {z z' : Value} {d : TypeDesc} {l : List β} (ho : o.op = .indexAddr t x y) (hx : L.ev x = some s.val) (hy : L.ev y = some (.int .i64 (n : Int)))
    (ht : ty C.P t = some ⟨.slice e, sz, bt, z⟩) (hj : ty C.P e = some ⟨d, k, bt', z'⟩) (hb : CRow k f dd H s l) (hn : n < l.length) : Rd C o L H (.pointer (some (s.cell (n * k)))) :=
  Rd.indexAddr (C := C) (H := H) ho hx hy ht hj (by rw [hb.len]; exact hn)
theorem HRow.fst0 {H : Heap} {s : Sl} {l : List HdT} {j : Nat} (h : HRow H s l) (hj : j < l.length) : hcell H (s.cell (j * 2 + 0)) = some (S (l.getD j ([], 0)).1) := h.fst j hj
theorem HRow.snd0 {H : Heap} {s : Sl} {l : List HdT} {j : Nat} (h : HRow H s l) (hj : j < l.length) : hcell H (s.cell (j * 2 + 1)) = some (.int .i64 (l.getD j ([], 0)).2) := h.snd j hj
theorem Rd.loadH [Tbl C.P] {x : Operand} {t sz bt j : Nat} {dd : TypeDesc} {z : Value} {s : Sl} {l : List HdT} (ho : o.op = .load t x) (hx : L.ev x = some (.pointer (some (s.cell (j * 2)))))
    (ht : ty C.P t = some ⟨dd, sz, bt, z⟩) (hd : isAggD dd = true) (hb : HRow H s l) (hj : j < l.length) (hn : Nat.beq sz 2 = true) : Rd C o L H (.agg #[S (l.getD j ([], 0)).1, .int .i64 (l.getD j ([], 0)).2]) :=
  Rd.loadA (vs := [S (l.getD j ([], 0)).1, .int .i64 (l.getD j ([], 0)).2]) ho hx ht hd hn fun i hi => by
    rw [Sl.cell_add]
    match i with
    | 0 => exact ⟨_, rfl, hb.fst j hj⟩
    | 1 => exact ⟨_, rfl, hb.snd j hj⟩
    | k + 2 => simp only [List.length_cons, List.length_nil] at hi; omega
theorem Rd.maxI {k : IntKind} {m n : Int} {x y : Operand} {ts : Array TypeId} (ho : o.op = .call { callee := .builtin .max, args := #[x, y], argTypes := ts }) (hx : L.ev x = some (.int k m)) (hy : L.ev y = some (.int k n)) : Rd C o L H (.int k (max m n)) :=
  Rd.of (by rw [ho]; rfl) fun act w ha ex => by
    have h1 := agr_of ha hx (by rw [ho]; simp [Op.operands, Call.operands])
    have h2 := agr_of ha hy (by rw [ho]; simp [Op.operands, Call.operands])
    simp [execOp, ho, resolve, invoke, builtin, h1, h2, Builtin.max_, Builtin.max2, Sem.run_bind, Result.andThen, Sem.run]
    omega
theorem Rd.minI {k : IntKind} {m n : Int} {x y : Operand} {ts : Array TypeId} (ho : o.op = .call { callee := .builtin .min, args := #[x, y], argTypes := ts }) (hx : L.ev x = some (.int k m)) (hy : L.ev y = some (.int k n)) : Rd C o L H (.int k (min m n)) :=
  Rd.of (by rw [ho]; rfl) fun act w ha ex => by
    have h1 := agr_of ha hx (by rw [ho]; simp [Op.operands, Call.operands])
    have h2 := agr_of ha hy (by rw [ho]; simp [Op.operands, Call.operands])
    simp [execOp, ho, resolve, invoke, builtin, h1, h2, Builtin.min_, Builtin.min2, Sem.run_bind, Result.andThen, Sem.run]
    omega
end
section
variable {C : Cx} {L : Env} {H : Heap} {fn : Func} {R : Value → Heap → Prop}
theorem Res.cell1 {P : Program} [Tbl P] {fn : Func} {N : Nat} {L : Env} {H : Heap} {t₁ e₁ : Nat} {a₁ : Addr} {v₁ : Value} {i₁ : TI} (h : fn.results = #[.cell t₁ e₁]) (h1 : L.get t₁ = some (.pointer (some a₁))) (c1 : hcell H a₁ = some v₁)
    (y1 : ty P e₁ = some i₁) (g1 : isAggD i₁.desc = false) : Res P fn N L H v₁ := fun a ds w hw k => by
  subst hw
  have e1 := k.get' h1
  have l1 := run_loadBox (P := P) y1 g1 c1
  simp [results, h, e1, asAddr, Sem.run_bind, Sem.run, l1, Result.andThen]
theorem retc1 [Tbl C.P] {t₁ e₁ : Nat} {a₁ : Addr} {v₁ : Value} {i₁ : TI} (c1 : hcell H a₁ = some v₁) (hR : R v₁ H) (h : fn.results = #[.cell t₁ e₁] := by rfl) (h1 : L.get t₁ = some (.pointer (some a₁)) := by rfl)
    (y1 : ty C.P e₁ = some i₁ := by rfl) (g1 : isAggD i₁.desc = false := by rfl) : retQ C fn R .ret L [] H := ret_plain (Res.cell1 h h1 c1 y1 g1) hR
theorem retc1d [Tbl C.P] {D : Nat} {t₁ e₁ : Nat} {a₁ : Addr} {v₁ : Value} {i₁ : TI} (hd : H[D]? = some (.deferred (some []))) (c1 : hcell (H.setIfInBounds D (.deferred none)) a₁ = some v₁) (hR : R v₁ (H.setIfInBounds D (.deferred none))) (h : fn.results = #[.cell t₁ e₁] := by rfl) (h1 : L.get t₁ = some (.pointer (some a₁)) := by rfl)
    (y1 : ty C.P e₁ = some i₁ := by rfl) (g1 : isAggD i₁.desc = false := by rfl) : retQ C fn R .ret L [D] H := retD ⟨hd, trivial⟩ (Res.cell1 h h1 c1 y1 g1) hR
theorem run_loadBlk1 {P : Program} [Tbl P] {w : World} {t b e sz bt : Nat} {d : TypeDesc} {z : Value} {cs : List Value} (ht : ty P t = some ⟨d, sz, bt, z⟩) (hd : isAggD d = true) (hn : Nat.beq sz cs.length = true) (hb : Blk w.heap b e cs) : (loadVar t ⟨b, 0, none⟩).run P w = .ok (.agg cs.toArray) w := by
  have hag := ty.agg ht w
  rw [hd] at hag
  have hsz := Nat.eq_of_beq_eq_true hn
  subst hsz
  have hl := run_loadCellsFrom (P := P) (w := w) (a := ⟨b, 0, none⟩) cs 0 #[] fun j hj => ⟨cs[j], List.getElem?_eq_getElem hj, by
    rw [Nat.zero_add, add_plain]
    show hcell w.heap _ = _
    rw [blk_cell hb.at_]
    simp⟩
  simp only [loadVar, Sem.run_bind, hag, Result.andThen, if_true, ty.sizeOf ht, loadCells, hl, Sem.run_pure]
  simp
theorem res_agg1 {P : Program} [Tbl P] {fn : Func} {N : Nat} {L : Env} {H : Heap} {t₁ e₁ e b sz bt : Nat} {d : TypeDesc} {z : Value} {cs : List Value} (h : fn.results = #[.cell t₁ e₁]) (h1 : L.get t₁ = some (.pointer (some ⟨b, 0, none⟩))) (hb : Blk H b e cs)
    (y1 : ty P e₁ = some ⟨d, sz, bt, z⟩) (hd : isAggD d = true) (hn : Nat.beq sz cs.length = true) : Res P fn N L H (.agg cs.toArray) := fun a ds w hw k => by
  subst hw
  have e1 := k.get' h1
  have l1 := run_loadBlk1 (P := P) y1 hd hn hb
  simp [results, h, e1, asAddr, Sem.run_bind, Sem.run, l1, Result.andThen]
theorem retA1 [Tbl C.P] {t₁ e₁ e b sz bt : Nat} {d : TypeDesc} {z : Value} {cs : List Value} (hb : Blk H b e cs) (hR : R (.agg cs.toArray) H) (h : fn.results = #[.cell t₁ e₁] := by rfl) (h1 : L.get t₁ = some (.pointer (some ⟨b, 0, none⟩)) := by rfl)
    (y1 : ty C.P e₁ = some ⟨d, sz, bt, z⟩ := by rfl) (hd : isAggD d = true := by rfl) (hn : Nat.beq sz cs.length = true := by rfl) : retQ C fn R .ret L [] H := ret_plain (res_agg1 h h1 hb y1 hd hn) hR
end
section
variable {C : Cx} {ops : Array Oper} {l : List Oper} {L : Env} {ds : List Nat} {H : Heap} {K : Env → Heap → Prop} {o : Oper}
/-- An operation that yields a value, by whichever law fits. -/
theorem RegS.r [Tbl C.P] {v : Value} {d : Nat} (k : RegS C ops l ((d, v) :: L) ds H K) (hds : o.dst = some d := by rfl) (hg : gd ops o L = some true := by rfl) (hd : Nat.blt d C.N = true := by rfl)
    (h : Rd C o L H v := by
      first
      | exact Rd.assign8 rfl rfl
      | exact Rd.assignN rfl
      | exact Rd.assignB rfl
      | exact Rd.assignP rfl
      | exact Rd.move rfl rfl
      | exact Rd.assign rfl rfl
      | exact Rd.pick_t rfl rfl rfl
      | exact Rd.pick_f rfl rfl rfl
      | exact Rd.nilCheck rfl rfl
      | exact Rd.lenF rfl rfl rfl rfl (by first | assumption | exact RowF.ext (by assumption) (by assumption))
      | exact Rd.lenNil rfl rfl rfl rfl
      | exact Rd.indexF rfl rfl rfl rfl rfl (by first | assumption | exact RowF.ext (by assumption) (by assumption)) (by omega)
      | exact Rd.loadF rfl rfl rfl rfl (by first | assumption | exact RowF.ext (by assumption) (by assumption)) (by omega)
      | exact Rd.extract rfl rfl rfl
      | exact Rd.field1 rfl rfl rfl rfl rfl rfl rfl
      | exact Rd.xor8 rfl rfl rfl
      | exact Rd.eql8 rfl rfl rfl
      | exact Rd.add8 rfl rfl rfl
      | exact Rd.neq8 rfl rfl rfl
      | exact Rd.geq8 rfl rfl rfl
      | exact Rd.shl8 rfl rfl rfl (by decide)
      | exact Rd.rem8 rfl rfl rfl (by decide)
      | exact Rd.lss rfl rfl rfl
      | exact Rd.eql rfl rfl rfl
      | exact Rd.neq rfl rfl rfl
      | exact Rd.leq rfl rfl rfl
      | exact Rd.gtr rfl rfl rfl
      | exact Rd.geq rfl rfl rfl
      | exact Rd.addN rfl rfl rfl (by omega)
      | exact Rd.subN rfl rfl rfl (by omega)
      | exact Rd.add rfl rfl rfl (by omega)
      | exact Rd.sub rfl rfl rfl (by omega)
      | exact Rd.not_p rfl rfl
      | exact Rd.not rfl rfl
      | exact Rd.str rfl rfl rfl rfl rfl (by first | assumption | exact RowF.ext (by assumption) (by assumption))
      | exact Rd.eqlS rfl rfl rfl
      | exact Rd.eqlNil rfl rfl rfl rfl
      | exact Rd.eqlBool rfl rfl rfl rfl
      | exact Rd.neqBool rfl rfl rfl rfl
      | exact Rd.shrN rfl rfl rfl (by simp only [IntKind.bits]; omega)
      | exact Rd.shlN rfl rfl rfl (by omega) (by first | assumption | omega)
      | exact Rd.andN rfl rfl rfl (by first | assumption | omega)
      | exact Rd.orN rfl rfl rfl (by first | assumption | omega)
      | exact Rd.xorN rfl rfl rfl (by first | assumption | omega)
      | exact Rd.remN rfl rfl rfl (by omega)
      | exact Rd.quoN rfl rfl rfl (by omega) (by omega)
      | exact Rd.mulN rfl rfl rfl (by first | assumption | omega)
      | exact Rd.maxN rfl rfl rfl
      | exact Rd.minN rfl rfl rfl
      | exact Rd.conv8 rfl rfl rfl rfl rfl
      | exact Rd.to8N rfl rfl rfl rfl rfl
      | exact Rd.convU64 rfl rfl rfl rfl (by omega)
      | exact Rd.convI64 rfl rfl rfl rfl (by omega)
      | exact Rd.fieldAddrB rfl rfl rfl rfl rfl rfl
      | exact Rd.indexA1 rfl rfl rfl rfl rfl (UInt8.toNat_lt _)
      | exact Rd.indexA1 rfl rfl rfl rfl rfl (by omega)
      | exact Rd.fieldAddrS rfl rfl rfl rfl rfl rfl
      | exact Rd.buildZ rfl rfl (fun _ => by kernel_rfl)
      | exact Rd.buildA rfl rfl rfl (by repeat (first | exact IsL.nil | apply IsL.cons)) (fun _ => by kernel_rfl)
      | exact Rd.makeFunc rfl rfl rfl
      | exact Rd.load rfl rfl rfl rfl (by first | assumption | exact Box.cell (by assumption) | exact Ext.cell (by assumption) (by assumption))
      | exact Rd.load rfl rfl rfl rfl (Blk.cell (by first | assumption | exact Blk.ext (by assumption) (by assumption)) rfl)
      | exact Rd.fieldA rfl rfl rfl rfl rfl rfl (by repeat (first | exact IsL.nil | apply IsL.cons))
      | exact Rd.loadBlk rfl rfl rfl rfl (by first | assumption | exact Blk.ext (by assumption) (by assumption)) (by repeat (first | exact IsL.nil | apply IsL.cons)) rfl
      | exact Rd.eqlPtr rfl rfl rfl rfl
      | exact Rd.neqPtr rfl rfl rfl rfl
      | exact Rd.neqS rfl rfl rfl
      | exact Rd.lenH rfl rfl rfl rfl (by first | assumption | exact HRow.ext (by assumption) (by assumption))
      | exact Rd.lenC rfl rfl rfl rfl (by first | assumption | exact CRow.ext (by assumption) (by assumption))
      | exact Rd.indexH rfl rfl rfl rfl rfl (by first | assumption | exact HRow.ext (by assumption) (by assumption)) (by omega)
      | exact Rd.indexC rfl rfl rfl rfl rfl (by first | assumption | exact CRow.ext (by assumption) (by assumption)) (by omega)
      | exact Rd.load rfl rfl rfl rfl (HRow.fst0 (by first | assumption | exact HRow.ext (by assumption) (by assumption)) (by omega))
      | exact Rd.load rfl rfl rfl rfl (HRow.snd0 (by first | assumption | exact HRow.ext (by assumption) (by assumption)) (by omega))
      | exact Rd.loadH rfl rfl rfl rfl (by first | assumption | exact HRow.ext (by assumption) (by assumption)) (by omega) rfl
      | exact Rd.load rfl rfl rfl rfl (CRow.cell (by first | assumption | exact CRow.ext (by assumption) (by assumption)) _ (by omega) _ _ rfl)
      | exact Rd.loadRow rfl rfl rfl rfl (by first | assumption | exact CRow.ext (by assumption) (by assumption)) (by omega) rfl
      | exact Rd.maxI rfl rfl rfl
      | exact Rd.minI rfl rfl rfl) :
    RegS C ops (o :: l) L ds H K := RegS.rd hg (by rw [hds]; exact hd) h (by rw [hds]; exact k)
end
section
variable {C : Cx} {ops : Array Oper} {l : List Oper} {L : Env} {ds : List Nat} {H : Heap} {K : Env → Heap → Prop} {o : Oper} {B : Array Nat} {p : Plan} {pend : List Rec}
theorem RegP.r' [Tbl C.P] {i d : Nat} {v : Value} (k : RegP C ops B p (⟨i, L, v⟩ :: pend) ((d, v) :: L) ds H K) (ho : ops[i]? = some o := by rfl) (hds : o.dst = some d := by rfl) (hg : gd ops o L = some true := by rfl) (hd : Nat.blt d C.N = true := by rfl)
    (h : Rd C o L H v := by
      first
      | exact Rd.assign8 rfl rfl
      | exact Rd.assignN rfl
      | exact Rd.assignB rfl
      | exact Rd.assignP rfl
      | exact Rd.move rfl rfl
      | exact Rd.assign rfl rfl
      | exact Rd.pick_t rfl rfl rfl
      | exact Rd.pick_f rfl rfl rfl
      | exact Rd.nilCheck rfl rfl
      | exact Rd.lenF rfl rfl rfl rfl (by first | assumption | exact RowF.ext (by assumption) (by assumption))
      | exact Rd.lenNil rfl rfl rfl rfl
      | exact Rd.indexF rfl rfl rfl rfl rfl (by first | assumption | exact RowF.ext (by assumption) (by assumption)) (by omega)
      | exact Rd.loadF rfl rfl rfl rfl (by first | assumption | exact RowF.ext (by assumption) (by assumption)) (by omega)
      | exact Rd.extract rfl rfl rfl
      | exact Rd.field1 rfl rfl rfl rfl rfl rfl rfl
      | exact Rd.xor8 rfl rfl rfl
      | exact Rd.eql8 rfl rfl rfl
      | exact Rd.add8 rfl rfl rfl
      | exact Rd.neq8 rfl rfl rfl
      | exact Rd.geq8 rfl rfl rfl
      | exact Rd.shl8 rfl rfl rfl (by decide)
      | exact Rd.rem8 rfl rfl rfl (by decide)
      | exact Rd.lss rfl rfl rfl
      | exact Rd.eql rfl rfl rfl
      | exact Rd.neq rfl rfl rfl
      | exact Rd.leq rfl rfl rfl
      | exact Rd.gtr rfl rfl rfl
      | exact Rd.geq rfl rfl rfl
      | exact Rd.addN rfl rfl rfl (by omega)
      | exact Rd.subN rfl rfl rfl (by omega)
      | exact Rd.add rfl rfl rfl (by omega)
      | exact Rd.sub rfl rfl rfl (by omega)
      | exact Rd.not_p rfl rfl
      | exact Rd.not rfl rfl
      | exact Rd.str rfl rfl rfl rfl rfl (by first | assumption | exact RowF.ext (by assumption) (by assumption))
      | exact Rd.eqlS rfl rfl rfl
      | exact Rd.eqlNil rfl rfl rfl rfl
      | exact Rd.eqlBool rfl rfl rfl rfl
      | exact Rd.neqBool rfl rfl rfl rfl
      | exact Rd.shrN rfl rfl rfl (by simp only [IntKind.bits]; omega)
      | exact Rd.shlN rfl rfl rfl (by omega) (by first | assumption | omega)
      | exact Rd.andN rfl rfl rfl (by first | assumption | omega)
      | exact Rd.orN rfl rfl rfl (by first | assumption | omega)
      | exact Rd.xorN rfl rfl rfl (by first | assumption | omega)
      | exact Rd.remN rfl rfl rfl (by omega)
      | exact Rd.quoN rfl rfl rfl (by omega) (by omega)
      | exact Rd.mulN rfl rfl rfl (by first | assumption | omega)
      | exact Rd.maxN rfl rfl rfl
      | exact Rd.minN rfl rfl rfl
      | exact Rd.conv8 rfl rfl rfl rfl rfl
      | exact Rd.to8N rfl rfl rfl rfl rfl
      | exact Rd.convU64 rfl rfl rfl rfl (by omega)
      | exact Rd.convI64 rfl rfl rfl rfl (by omega)
      | exact Rd.fieldAddrB rfl rfl rfl rfl rfl rfl
      | exact Rd.indexA1 rfl rfl rfl rfl rfl (UInt8.toNat_lt _)
      | exact Rd.indexA1 rfl rfl rfl rfl rfl (by omega)
      | exact Rd.fieldAddrS rfl rfl rfl rfl rfl rfl
      | exact Rd.buildZ rfl rfl (fun _ => by kernel_rfl)
      | exact Rd.buildA rfl rfl rfl (by repeat (first | exact IsL.nil | apply IsL.cons)) (fun _ => by kernel_rfl)
      | exact Rd.makeFunc rfl rfl rfl
      | exact Rd.load rfl rfl rfl rfl (by first | assumption | exact Box.cell (by assumption) | exact Ext.cell (by assumption) (by assumption))
      | exact Rd.load rfl rfl rfl rfl (Blk.cell (by first | assumption | exact Blk.ext (by assumption) (by assumption)) rfl)
      | exact Rd.fieldA rfl rfl rfl rfl rfl rfl (by repeat (first | exact IsL.nil | apply IsL.cons))
      | exact Rd.loadBlk rfl rfl rfl rfl (by first | assumption | exact Blk.ext (by assumption) (by assumption)) (by repeat (first | exact IsL.nil | apply IsL.cons)) rfl
      | exact Rd.eqlPtr rfl rfl rfl rfl
      | exact Rd.neqPtr rfl rfl rfl rfl
      | exact Rd.neqS rfl rfl rfl
      | exact Rd.lenH rfl rfl rfl rfl (by first | assumption | exact HRow.ext (by assumption) (by assumption))
      | exact Rd.lenC rfl rfl rfl rfl (by first | assumption | exact CRow.ext (by assumption) (by assumption))
      | exact Rd.indexH rfl rfl rfl rfl rfl (by first | assumption | exact HRow.ext (by assumption) (by assumption)) (by omega)
      | exact Rd.indexC rfl rfl rfl rfl rfl (by first | assumption | exact CRow.ext (by assumption) (by assumption)) (by omega)
      | exact Rd.load rfl rfl rfl rfl (HRow.fst0 (by first | assumption | exact HRow.ext (by assumption) (by assumption)) (by omega))
      | exact Rd.load rfl rfl rfl rfl (HRow.snd0 (by first | assumption | exact HRow.ext (by assumption) (by assumption)) (by omega))
      | exact Rd.loadH rfl rfl rfl rfl (by first | assumption | exact HRow.ext (by assumption) (by assumption)) (by omega) rfl
      | exact Rd.load rfl rfl rfl rfl (CRow.cell (by first | assumption | exact CRow.ext (by assumption) (by assumption)) _ (by omega) _ _ rfl)
      | exact Rd.loadRow rfl rfl rfl rfl (by first | assumption | exact CRow.ext (by assumption) (by assumption)) (by omega) rfl
      | exact Rd.maxI rfl rfl rfl
      | exact Rd.minI rfl rfl rfl) : RegP C ops B (.q i p) pend L ds H K := RegP.rd ho hg (by rw [hds]; exact hd) h (by rw [hds]; exact k)
/-- What was promised, asked once more. -/
theorem prom2 [Tbl C.P] {i : Nat} {v : Value} (ho : ops[i]? = some o := by rfl) (hg : gd ops o L = some true := by rfl)
    (h : Rd C o L H v := by
      first
      | exact Rd.assign8 rfl rfl
      | exact Rd.assignN rfl
      | exact Rd.assignB rfl
      | exact Rd.assignP rfl
      | exact Rd.move rfl rfl
      | exact Rd.assign rfl rfl
      | exact Rd.pick_t rfl rfl rfl
      | exact Rd.pick_f rfl rfl rfl
      | exact Rd.nilCheck rfl rfl
      | exact Rd.lenF rfl rfl rfl rfl (by first | assumption | exact RowF.ext (by assumption) (by assumption))
      | exact Rd.lenNil rfl rfl rfl rfl
      | exact Rd.indexF rfl rfl rfl rfl rfl (by first | assumption | exact RowF.ext (by assumption) (by assumption)) (by omega)
      | exact Rd.loadF rfl rfl rfl rfl (by first | assumption | exact RowF.ext (by assumption) (by assumption)) (by omega)
      | exact Rd.extract rfl rfl rfl
      | exact Rd.field1 rfl rfl rfl rfl rfl rfl rfl
      | exact Rd.xor8 rfl rfl rfl
      | exact Rd.eql8 rfl rfl rfl
      | exact Rd.add8 rfl rfl rfl
      | exact Rd.neq8 rfl rfl rfl
      | exact Rd.geq8 rfl rfl rfl
      | exact Rd.shl8 rfl rfl rfl (by decide)
      | exact Rd.rem8 rfl rfl rfl (by decide)
      | exact Rd.lss rfl rfl rfl
      | exact Rd.eql rfl rfl rfl
      | exact Rd.neq rfl rfl rfl
      | exact Rd.leq rfl rfl rfl
      | exact Rd.gtr rfl rfl rfl
      | exact Rd.geq rfl rfl rfl
      | exact Rd.addN rfl rfl rfl (by omega)
      | exact Rd.subN rfl rfl rfl (by omega)
      | exact Rd.add rfl rfl rfl (by omega)
      | exact Rd.sub rfl rfl rfl (by omega)
      | exact Rd.not_p rfl rfl
      | exact Rd.not rfl rfl
      | exact Rd.str rfl rfl rfl rfl rfl (by first | assumption | exact RowF.ext (by assumption) (by assumption))
      | exact Rd.eqlS rfl rfl rfl
      | exact Rd.eqlNil rfl rfl rfl rfl
      | exact Rd.eqlBool rfl rfl rfl rfl
      | exact Rd.neqBool rfl rfl rfl rfl
      | exact Rd.shrN rfl rfl rfl (by simp only [IntKind.bits]; omega)
      | exact Rd.shlN rfl rfl rfl (by omega) (by first | assumption | omega)
      | exact Rd.andN rfl rfl rfl (by first | assumption | omega)
      | exact Rd.orN rfl rfl rfl (by first | assumption | omega)
      | exact Rd.xorN rfl rfl rfl (by first | assumption | omega)
      | exact Rd.remN rfl rfl rfl (by omega)
      | exact Rd.quoN rfl rfl rfl (by omega) (by omega)
      | exact Rd.mulN rfl rfl rfl (by first | assumption | omega)
      | exact Rd.maxN rfl rfl rfl
      | exact Rd.minN rfl rfl rfl
      | exact Rd.conv8 rfl rfl rfl rfl rfl
      | exact Rd.to8N rfl rfl rfl rfl rfl
      | exact Rd.convU64 rfl rfl rfl rfl (by omega)
      | exact Rd.convI64 rfl rfl rfl rfl (by omega)
      | exact Rd.fieldAddrB rfl rfl rfl rfl rfl rfl
      | exact Rd.indexA1 rfl rfl rfl rfl rfl (UInt8.toNat_lt _)
      | exact Rd.indexA1 rfl rfl rfl rfl rfl (by omega)
      | exact Rd.fieldAddrS rfl rfl rfl rfl rfl rfl
      | exact Rd.buildZ rfl rfl (fun _ => by kernel_rfl)
      | exact Rd.buildA rfl rfl rfl (by repeat (first | exact IsL.nil | apply IsL.cons)) (fun _ => by kernel_rfl)
      | exact Rd.makeFunc rfl rfl rfl
      | exact Rd.load rfl rfl rfl rfl (by first | assumption | exact Box.cell (by assumption) | exact Ext.cell (by assumption) (by assumption))
      | exact Rd.load rfl rfl rfl rfl (Blk.cell (by first | assumption | exact Blk.ext (by assumption) (by assumption)) rfl)
      | exact Rd.fieldA rfl rfl rfl rfl rfl rfl (by repeat (first | exact IsL.nil | apply IsL.cons))
      | exact Rd.loadBlk rfl rfl rfl rfl (by first | assumption | exact Blk.ext (by assumption) (by assumption)) (by repeat (first | exact IsL.nil | apply IsL.cons)) rfl
      | exact Rd.eqlPtr rfl rfl rfl rfl
      | exact Rd.neqPtr rfl rfl rfl rfl
      | exact Rd.neqS rfl rfl rfl
      | exact Rd.lenH rfl rfl rfl rfl (by first | assumption | exact HRow.ext (by assumption) (by assumption))
      | exact Rd.lenC rfl rfl rfl rfl (by first | assumption | exact CRow.ext (by assumption) (by assumption))
      | exact Rd.indexH rfl rfl rfl rfl rfl (by first | assumption | exact HRow.ext (by assumption) (by assumption)) (by omega)
      | exact Rd.indexC rfl rfl rfl rfl rfl (by first | assumption | exact CRow.ext (by assumption) (by assumption)) (by omega)
      | exact Rd.load rfl rfl rfl rfl (HRow.fst0 (by first | assumption | exact HRow.ext (by assumption) (by assumption)) (by omega))
      | exact Rd.load rfl rfl rfl rfl (HRow.snd0 (by first | assumption | exact HRow.ext (by assumption) (by assumption)) (by omega))
      | exact Rd.loadH rfl rfl rfl rfl (by first | assumption | exact HRow.ext (by assumption) (by assumption)) (by omega) rfl
      | exact Rd.load rfl rfl rfl rfl (CRow.cell (by first | assumption | exact CRow.ext (by assumption) (by assumption)) _ (by omega) _ _ rfl)
      | exact Rd.loadRow rfl rfl rfl rfl (by first | assumption | exact CRow.ext (by assumption) (by assumption)) (by omega) rfl
      | exact Rd.maxI rfl rfl rfl
      | exact Rd.minI rfl rfl rfl) : Prom C ops H ⟨i, L, v⟩ := ⟨o, ho, .inl ⟨hg, h⟩⟩
theorem proms2 {C : Cx} [Tbl C.P] {ops : Array Oper} {H : Heap} {pend : List Rec} (h : Proms C ops H pend := by repeat (first | exact Proms.nil | refine Proms.cons prom2 ?_ | refine Proms.cons promS ?_)) : Proms C ops H pend := h
theorem RegP.sub {L' : Env} (hs : ∀ n v, L'.get n = some v → L.get n = some v) (k : RegP C ops B p pend L' ds H K) : RegP C ops B p pend L ds H K :=
  ⟨fun hd done hk => ⟨fun E a0 fuel A a w h hc => (k.out hd done hk).out E a0 fuel A a w { h with env := fun t u hu => h.env t u (hs _ _ hu) } hc⟩⟩
theorem put_sub {d : Nat} {v : Value} (hd : L.get d = some v) : ∀ n u, Env.get ((d, v) :: L) n = some u → L.get n = some u := fun n u hu => by
  rcases Env.get_put_some (L := L) (d := d) (v := v) hu with ⟨rfl, rfl⟩ | ⟨_, hu⟩
  · exact hd
  · exact hu
theorem RegP.spQ {i j : Nat} {want : Bool} {d : Nat} {q : Prop} (ht : q → RegP C ops B (.q i p) pend ((d, .bool true) :: L) ds H K) (hf : ¬q → RegP C ops B (.q i p) pend ((d, .bool false) :: L) ds H K)
    (ho : ops[i]? = some o := by rfl) (hg : o.guard = some (j, want) := by rfl) (hj : (ops[j]?).bind (·.dst) = some d := by rfl) (hd : L.get d = some (.bool (dec q)) := by rfl) : RegP C ops B (.q i p) pend L ds H K := by
  by_cases h : q
  · rw [dec_pos h] at hd; exact RegP.sub (put_sub hd) (ht h)
  · rw [dec_neg h] at hd; exact RegP.sub (put_sub hd) (hf h)
theorem RegP.spE {i j : Nat} {keep : List Nat} {alt : Plan} {want : Bool} {d : Nat} {q : Prop} (ht : q → RegP C ops B (.e i keep p alt) pend ((d, .bool true) :: L) ds H K) (hf : ¬q → RegP C ops B (.e i keep p alt) pend ((d, .bool false) :: L) ds H K)
    (ho : ops[i]? = some o := by rfl) (hg : o.guard = some (j, want) := by rfl) (hj : (ops[j]?).bind (·.dst) = some d := by rfl) (hd : L.get d = some (.bool (dec q)) := by rfl) : RegP C ops B (.e i keep p alt) pend L ds H K := by
  by_cases h : q
  · rw [dec_pos h] at hd; exact RegP.sub (put_sub hd) (ht h)
  · rw [dec_neg h] at hd; exact RegP.sub (put_sub hd) (hf h)
theorem RegP.spQ_t {i j : Nat} {want : Bool} {d : Nat} {q : Prop} (ho : ops[i]? = some o) (hg : o.guard = some (j, want)) (hj : (ops[j]?).bind (·.dst) = some d) (hd : L.get d = some (.bool (dec q))) (hq : q) (k : RegP C ops B (.q i p) pend ((d, .bool true) :: L) ds H K) : RegP C ops B (.q i p) pend L ds H K := RegP.spQ (fun _ => k) (fun h => absurd hq h) ho hg hj hd
theorem RegP.spQ_f {i j : Nat} {want : Bool} {d : Nat} {q : Prop} (ho : ops[i]? = some o) (hg : o.guard = some (j, want)) (hj : (ops[j]?).bind (·.dst) = some d) (hd : L.get d = some (.bool (dec q))) (hq : ¬q) (k : RegP C ops B (.q i p) pend ((d, .bool false) :: L) ds H K) : RegP C ops B (.q i p) pend L ds H K := RegP.spQ (fun h => absurd h hq) (fun _ => k) ho hg hj hd
theorem RegP.spE_t {i j : Nat} {keep : List Nat} {alt : Plan} {want : Bool} {d : Nat} {q : Prop} (ho : ops[i]? = some o) (hg : o.guard = some (j, want)) (hj : (ops[j]?).bind (·.dst) = some d) (hd : L.get d = some (.bool (dec q))) (hq : q) (k : RegP C ops B (.e i keep p alt) pend ((d, .bool true) :: L) ds H K) : RegP C ops B (.e i keep p alt) pend L ds H K := RegP.spE (fun _ => k) (fun h => absurd hq h) ho hg hj hd
theorem RegP.spE_f {i j : Nat} {keep : List Nat} {alt : Plan} {want : Bool} {d : Nat} {q : Prop} (ho : ops[i]? = some o) (hg : o.guard = some (j, want)) (hj : (ops[j]?).bind (·.dst) = some d) (hd : L.get d = some (.bool (dec q))) (hq : ¬q) (k : RegP C ops B (.e i keep p alt) pend ((d, .bool false) :: L) ds H K) : RegP C ops B (.e i keep p alt) pend L ds H K := RegP.spE (fun h => absurd h hq) (fun _ => k) ho hg hj hd
/-- On, as far as no choice is to be made. -/
theorem run {R G : Prop} (r : R) (h : Left R → G := by
    intro r
    repeat (first
      | refine RegS.r ?_
      | refine RegS.fin ?_
      | refine RegP.r' ?_
      | refine RegP.end ?_
      | refine Wp.regD ?_
      | refine RegP.sk ?_
      | refine RegS.sk ?_
      | refine RegP.skE ?_
      | refine Wp.seq ?_
      | refine Wp.region ?_
      | refine thenQ_n ?_
      | refine Wp.block ?_
      | refine Wp.ret ?_
      | refine Wp.exit ?_
      | refine Wp.skip ?_
      | refine Wp.cond_t (by rfl) ?_
      | refine Wp.cond_f (by rfl) ?_
      | refine Wp.cond_pt (by rfl) (by first | assumption | omega) ?_
      | refine Wp.cond_pf (by rfl) (by first | assumption | omega) ?_
      | refine RegS.sp_t (by rfl) (by rfl) (by rfl) (by first | assumption | omega) ?_
      | refine RegS.sp_f (by rfl) (by rfl) (by rfl) (by first | assumption | omega) ?_
      | refine RegP.spQ_t (by rfl) (by rfl) (by rfl) (by rfl) (by first | assumption | omega) ?_
      | refine RegP.spQ_f (by rfl) (by rfl) (by rfl) (by rfl) (by first | assumption | omega) ?_
      | refine RegP.spE_t (by rfl) (by rfl) (by rfl) (by rfl) (by first | assumption | omega) ?_
      | refine RegP.spE_f (by rfl) (by rfl) (by rfl) (by rfl) (by first | assumption | omega) ?_
      | refine thenQ_r ?_
      | refine thenQ_e ?_
      | refine blockQ_n ?_
      | refine blockQ_r ?_
      | refine blockQ_t (by rfl) ?_
      | refine blockQ_f (by rfl) ?_
      | refine roundQ_r ?_
      | refine roundQ_e ?_
      | refine Wp.scope ?_
      | refine Wp.label ?_
      | refine scopeQ_n ?_
      | refine scopeQ_r ?_
      | refine scopeQ_e ?_
      | refine midQ_r ?_
      | refine midQ_e ?_)
    exact r.out) : G := h ⟨r⟩
end
end Go.Vc
