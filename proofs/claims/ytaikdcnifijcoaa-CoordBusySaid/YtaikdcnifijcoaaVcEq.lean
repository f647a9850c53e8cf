/-
  The calculus, part 19: structs of two parts, compared.
-/
import Derived.Test.YtaikdcnifijcoaaVcGo
import Derived.Laws.StructEq
import Derived.Test.YtaikdcnifijcoaaVcCopy
set_option linter.unusedVariables false
set_option linter.unusedSimpArgs false
namespace Go.Vc
theorem run_eqFields2 {P : Program} [Tbl P] (w : World) {d : Nat} {f0 f1 : Field} {u0 u1 v0 v1 : Value} {p0 p1 : Bool} {i0 i1 : TI} (hn0 : f0.name ≠ "_") (hn1 : f1.name ≠ "_") (o0 : f0.offset = 0) (o1 : f1.offset = 1) (t0 : ty P f0.type = some i0) (t1 : ty P f1.type = some i1)
    (g0 : isAggD i0.desc = false) (g1 : isAggD i1.desc = false) (e0 : (Op.equalIn d f0.type u0 v0).run P w = .ok p0 w) (e1 : (Op.equalIn d f1.type u1 v1).run P w = .ok p1 w) :
    (Op.eqFields d #[u0, u1] #[v0, v1] [f0, f1]).run P w = .ok (p0 && p1) w := by
  have a0 := ty.agg t0 w
  have a1 := ty.agg t1 w
  rw [g0] at a0
  rw [g1] at a1
  have k0 : ∀ x y, (part f0.type #[x, y] 0).run P w = .ok x w := fun x y => by simp only [part, Sem.run_bind, a0, Result.andThen]; rfl
  have k1 : ∀ x y, (part f1.type #[x, y] 1).run P w = .ok y w := fun x y => by simp only [part, Sem.run_bind, a1, Result.andThen]; rfl
  simp only [Op.eqFields, hn0, hn1, ne_eq, not_false_eq_true, if_true, Sem.run_bind, o0, o1, k0, k1, e0, Result.andThen]
  cases p0
  · rfl
  · simp only [Bool.not_true, Bool.false_eq_true, if_false, Sem.run_bind, k1, e1, Result.andThen]
    cases p1 <;> rfl
section
variable {C : Cx} {o : Oper} {L : Env} {H : Heap}
theorem run_eqTwo {P : Program} [Tbl P] (w : World) {t : TypeId} {f0 f1 : Field} {sz bt : Nat} {z u0 u1 v0 v1 : Value} {p0 p1 : Bool} {i0 i1 : TI} {x y : Operand} (ht : ty P t = some ⟨.struct #[f0, f1], sz, bt, z⟩) (hs : P.stoodInHeld t = false) (hg : P.eqGuardType P.depth t = false)
    (hn0 : f0.name ≠ "_") (hn1 : f1.name ≠ "_") (o0 : f0.offset = 0) (o1 : f1.offset = 1) (t0 : ty P f0.type = some i0) (t1 : ty P f1.type = some i1)
    (g0 : isAggD i0.desc = false) (g1 : isAggD i1.desc = false) (e0 : (Op.equalIn 9999 f0.type u0 v0).run P w = .ok p0 w) (e1 : (Op.equalIn 9999 f1.type u1 v1).run P w = .ok p1 w) :
    (binOp .eql t (.agg #[u0, u1]) (.agg #[v0, v1])).run P w = .ok (.bool (p0 && p1)) w ∧ (binOp .neq t (.agg #[u0, u1]) (.agg #[v0, v1])).run P w = .ok (.bool (!(p0 && p1))) w ∧ ∀ op, (eqGuard op t x y (.agg #[u0, u1]) (.agg #[v0, v1])).run P w = .ok () w := by
  have hu := (Tbl.ok.find ht).1
  have hf : P.fieldsOf t = #[f0, f1] := by simp only [Program.fieldsOf, hu]
  have h1 := run_equalIn_struct (P := P) w 9999 t #[u0, u1] #[v0, v1] (by rw [hf]; exact hu) hs
  rw [hf] at h1
  have h2 := run_eqFields2 w hn0 hn1 o0 o1 t0 t1 g0 g1 e0 e1
  have h3 : (Op.equalIn 10000 t (.agg #[u0, u1]) (.agg #[v0, v1])).run P w = .ok (p0 && p1) w := h1.trans h2
  refine ⟨?_, ?_, fun op => run_eqGuard_agg w op t x y _ _ hg⟩
  · rw [run_eql_struct, h3]; rfl
  · rw [run_neq_struct, h3]; rfl
/-- Which types of two parts may be compared. -/
theorem Rd.eqTwo [Tbl C.P] {neg : Bool} {x y : Operand} {t t' : TypeId} {f0 f1 : Field} {sz bt : Nat} {z u0 u1 v0 v1 : Value} {p0 p1 : Bool} {i0 i1 : TI} (ho : o.op = .binOp (if neg then .neq else .eql) t x y t') (hx : L.ev x = some (.agg #[u0, u1])) (hy : L.ev y = some (.agg #[v0, v1]))
    (ht : ty C.P t = some ⟨.struct #[f0, f1], sz, bt, z⟩) (hs : C.P.stoodInHeld t = false) (hg : C.P.eqGuardType C.P.depth t = false)
    (hn0 : f0.name ≠ "_") (hn1 : f1.name ≠ "_") (o0 : f0.offset = 0) (o1 : f1.offset = 1) (t0 : ty C.P f0.type = some i0) (t1 : ty C.P f1.type = some i1)
    (g0 : isAggD i0.desc = false) (g1 : isAggD i1.desc = false) (e0 : ∀ w, (Op.equalIn 9999 f0.type u0 v0).run C.P w = .ok p0 w) (e1 : ∀ w, (Op.equalIn 9999 f1.type u1 v1).run C.P w = .ok p1 w) :
    Rd C o L H (.bool (if neg then !(p0 && p1) else (p0 && p1))) :=
  Rd.of (by rw [ho]; rfl) fun act w ha ex => by
    have h1 := agr_of ha hx (by rw [ho]; simp [Op.operands])
    have h2 := agr_of ha hy (by rw [ho]; simp [Op.operands])
    obtain ⟨r1, r2, r3⟩ := run_eqTwo (P := C.P) w (x := x) (y := y) ht hs hg hn0 hn1 o0 o1 t0 t1 g0 g1 (e0 w) (e1 w)
    cases neg
    · simp only [execOp, ho, h1, h2, Sem.run_bind, r3, Result.andThen, Bool.false_eq_true, if_false, r1]; rfl
    · simp only [execOp, ho, h1, h2, Sem.run_bind, r3, Result.andThen, if_true, r2]; rfl
theorem eqI {P : Program} [Tbl P] {t sz bt : Nat} {z : Value} {a b : Int} (h : ty P t = some ⟨.int .i64, sz, bt, z⟩) (w : World) : (Op.equalIn 9999 t (.int .i64 a) (.int .i64 b)).run P w = .ok (dec (a = b)) w := by
  rw [run_equalIn_int w 9998 t .i64 .i64 a b (Tbl.ok.find h).1, beqd, dec_decide]
theorem eqS {P : Program} [Tbl P] {t sz bt : Nat} {z : Value} {a b : List UInt8} (h : ty P t = some ⟨.string, sz, bt, z⟩) (w : World) : (Op.equalIn 9999 t (S a) (S b)).run P w = .ok (dec (a = b)) w := by
  have := run_equalIn_string w 9998 t ⟨a.toArray⟩ ⟨b.toArray⟩ (Tbl.ok.find h).1
  simp only [S]
  rw [this, bytes_toList, bytes_toList]
  congr 1
  by_cases e : a = b <;> simp [e, dec_pos, dec_neg]
theorem dec_and {p q : Prop} : (dec p && dec q) = dec (p ∧ q) := by
  by_cases hp : p <;> by_cases hq : q <;> simp [dec_pos, dec_neg, hp, hq]
theorem dec_nand {p q : Prop} : (!(dec p && dec q)) = dec (¬ (p ∧ q)) := by rw [dec_and, dec_not]
theorem Rd.eqlII [Tbl C.P] {x y : Operand} {t t' : TypeId} {f0 f1 : Field} {sz bt sz0 bt0 sz1 bt1 : Nat} {z z0 z1 : Value} {a b c d : Int} (ho : o.op = .binOp .eql t x y t') (hx : L.ev x = some (.agg #[.int .i64 a, .int .i64 b])) (hy : L.ev y = some (.agg #[.int .i64 c, .int .i64 d]))
    (ht : ty C.P t = some ⟨.struct #[f0, f1], sz, bt, z⟩) (hs : C.P.stoodInHeld t = false) (hg : C.P.eqGuardType C.P.depth t = false)
    (hn0 : f0.name ≠ "_") (hn1 : f1.name ≠ "_") (o0 : f0.offset = 0) (o1 : f1.offset = 1) (t0 : ty C.P f0.type = some ⟨.int .i64, sz0, bt0, z0⟩) (t1 : ty C.P f1.type = some ⟨.int .i64, sz1, bt1, z1⟩) : Rd C o L H (.bool (dec (a = c ∧ b = d))) := by
  rw [← dec_and]
  exact Rd.eqTwo (neg := false) ho hx hy ht hs hg hn0 hn1 o0 o1 t0 t1 rfl rfl (eqI t0) (eqI t1)
theorem Rd.eqlSI [Tbl C.P] {x y : Operand} {t t' : TypeId} {f0 f1 : Field} {sz bt sz0 bt0 sz1 bt1 : Nat} {z z0 z1 : Value} {a c : List UInt8} {b d : Int} (ho : o.op = .binOp .eql t x y t') (hx : L.ev x = some (.agg #[S a, .int .i64 b])) (hy : L.ev y = some (.agg #[S c, .int .i64 d]))
    (ht : ty C.P t = some ⟨.struct #[f0, f1], sz, bt, z⟩) (hs : C.P.stoodInHeld t = false) (hg : C.P.eqGuardType C.P.depth t = false)
    (hn0 : f0.name ≠ "_") (hn1 : f1.name ≠ "_") (o0 : f0.offset = 0) (o1 : f1.offset = 1) (t0 : ty C.P f0.type = some ⟨.string, sz0, bt0, z0⟩) (t1 : ty C.P f1.type = some ⟨.int .i64, sz1, bt1, z1⟩) : Rd C o L H (.bool (dec (a = c ∧ b = d))) := by
  rw [← dec_and]
  exact Rd.eqTwo (neg := false) ho hx hy ht hs hg hn0 hn1 o0 o1 t0 t1 rfl rfl (eqS t0) (eqI t1)
theorem Rd.neqSI [Tbl C.P] {x y : Operand} {t t' : TypeId} {f0 f1 : Field} {sz bt sz0 bt0 sz1 bt1 : Nat} {z z0 z1 : Value} {a c : List UInt8} {b d : Int} (ho : o.op = .binOp .neq t x y t') (hx : L.ev x = some (.agg #[S a, .int .i64 b])) (hy : L.ev y = some (.agg #[S c, .int .i64 d]))
    (ht : ty C.P t = some ⟨.struct #[f0, f1], sz, bt, z⟩) (hs : C.P.stoodInHeld t = false) (hg : C.P.eqGuardType C.P.depth t = false)
    (hn0 : f0.name ≠ "_") (hn1 : f1.name ≠ "_") (o0 : f0.offset = 0) (o1 : f1.offset = 1) (t0 : ty C.P f0.type = some ⟨.string, sz0, bt0, z0⟩) (t1 : ty C.P f1.type = some ⟨.int .i64, sz1, bt1, z1⟩) : Rd C o L H (.bool (dec (¬ (a = c ∧ b = d)))) := by
  rw [← dec_nand]
  exact Rd.eqTwo (neg := true) ho hx hy ht hs hg hn0 hn1 o0 o1 t0 t1 rfl rfl (eqS t0) (eqI t1)
end
section
variable {C : Cx} {o : Oper} {L : Env} {H : Heap}
/-- copy, of as many as there is room for. -/
theorem Ef.copyM [Tbl C.P] {t u e e' g n sz bt bytes : Nat} {z z' : Value} {d : TypeDesc} {x y : Operand} {r : Sl} {vs zs : List Value} {K : Value → Heap → Prop}
    (ho : o.op = .call { callee := .builtin .copy, args := #[x, y], argTypes := #[t, u] }) (hx : L.ev x = some (Sl.fresh g n).val) (hy : L.ev y = some r.val)
    (ht : ty C.P t = some ⟨.slice e, sz, bt, z⟩) (he : ty C.P e = some ⟨d, 1, bytes, z'⟩) (hb : Blk H g e' vs) (hn : vs.length = n) (hr : Row H r zs) (h1 : ∀ v ∈ zs, oneCell v = true)
    (hk : K (.int .i64 ((zs.take n).length : Int)) (hsets H g 0 (zs.take n))) : Ef C o L H K :=
  Ef.of (by rw [ho]; rfl) fun act w ha hw => by
    have e1 := agr_of ha hx (by rw [ho]; simp [Op.operands, Call.operands])
    have e2 := agr_of ha hy (by rw [ho]; simp [Op.operands, Call.operands])
    subst hw
    obtain ⟨i, hi, hz1, hs1, hb1⟩ := ty.info he
    have hrl := hr.len
    have hrun : (Builtin.copy_ #[t, u] o.type #[(Sl.fresh g n).val, r.val]).run C.P w = .ok (goInt (zs.take n).length) (w.setCells g 0 (zs.take n)) := by
      cases hro : r.ao with
      | none =>
        obtain ⟨h3, h4⟩ := r.ok hro
        have hys : zs = [] := List.eq_nil_of_length_eq_zero (by omega)
        subst hys
        have := run_copy_none (P := C.P) w t u o.type e (some ⟨g, 0, none⟩) none n n 0 0 (Tbl.ok.find ht).1 (by rw [hi]; simp [hs1]) (by simp)
        simpa [Sl.val, Sl.fresh, hro, h3, h4, World.setCells] using this
      | some ad =>
        have := run_copy_cells (P := C.P) w t u o.type e g 0 n n ad r.len r.cap (zs.take n) (Tbl.ok.find ht).1 (by rw [hi]; simp [hs1]) (by rw [hrl, List.length_take]; exact Nat.min_comm _ _)
          (fun j v hj => by rw [add_eq_cell r ad hro]; rw [List.getElem?_take] at hj; split at hj; exact hr.cell j v hj; cases hj) (fun j hj => by
            rw [show w.cell? ⟨g, 0 + j, none⟩ = hcell w.heap ⟨g, 0 + j, none⟩ from rfl, blk_cell hb.at_]
            rw [List.length_take] at hj
            have hj' : j < vs.length := by omega
            simp [hj']) (fun j hj => blk_free hb.at_) (fun v hv => oneCell_of (h1 v (List.mem_of_mem_take hv)))
        simpa [Sl.val, Sl.fresh, hro] using this
    refine .inl ⟨.int .i64 ((zs.take n).length : Int), w.setCells g 0 (zs.take n), ?_, setCells_sim g (zs.take n) 0 w, by rw [setCells_heap]; exact hk⟩
    simp only [List.length_take] at hrun ⊢
    simp [execOp, ho, resolve, invoke, builtin, e1, e2, hrun, Result.andThen, Sem.run_bind, Sem.run, goInt]
end
section
variable {C : Cx} {ops : Array Oper} {l : List Oper} {L : Env} {ds : List Nat} {H : Heap} {Kk : Env → Heap → Prop} {o : Oper}
theorem RegS.copyM [Tbl C.P] {t u e e' g n sz bt bytes dst : Nat} {z z' : Value} {d : TypeDesc} {x y : Operand} {r : Sl} {vs zs : List Value} (hb : Blk H g e' vs) (hn : vs.length = n) (hr : Row H r zs) (h1 : ∀ v ∈ zs, oneCell v = true)
    (k : RegS C ops l ((dst, .int .i64 ((zs.take n).length : Int)) :: L) ds (hsets H g 0 (zs.take n)) Kk)
    (ho : o.op = .call { callee := .builtin .copy, args := #[x, y], argTypes := #[t, u] } := by rfl) (hx : L.ev x = some (Sl.fresh g n).val := by rfl) (hy : L.ev y = some r.val := by rfl)
    (ht : ty C.P t = some ⟨.slice e, sz, bt, z⟩ := by rfl) (he : ty C.P e = some ⟨d, 1, bytes, z'⟩ := by rfl)
    (hds : o.dst = some dst := by rfl) (hg : gd ops o L = some true := by rfl) (hdd : Nat.blt dst C.N = true := by rfl) : RegS C ops (o :: l) L ds H Kk :=
  RegS.ef hg (by rw [hds]; exact hdd) (Ef.copyM ho hx hy ht he hb hn hr h1 (by rw [hds]; exact k))
end
section
variable {C : Cx} {o : Oper} {L : Env} {H : Heap}
/-- []byte(text), in a block of its own. -/
theorem Ef.convStrN [Tbl C.P] {x : Operand} {l : List UInt8} {st dt e sz bt sz' bt' sz'' bt'' : Nat} {z z' z'' : Value} {K : Value → Heap → Prop} (ho : o.op = .convert st dt x) (hx : L.ev x = some (S l))
    (hs : ty C.P st = some ⟨.string, sz, bt, z⟩) (hd : ty C.P dt = some ⟨.slice e, sz', bt', z'⟩) (he : ty C.P e = some ⟨.int .u8, sz'', bt'', z''⟩)
    (hk : ∀ (s' : Sl) (H' : Heap), Bytes H' s' l → Ext H H' → (∀ b, s'.blk = some b → H.size ≤ b ∧ b < H'.size) → K s'.val H') : Ef C o L H K :=
  Ef.of (by rw [ho]; rfl) fun act w ha hw => by
    have h1 := agr_of ha hx (by rw [ho]; simp [Op.operands])
    subst hw
    have hrun := run_bytes_of_string (P := C.P) w st dt e ⟨l.toArray⟩ (Tbl.ok.find hs).1 (Tbl.ok.find hd).1 (Tbl.ok.find he).1
    have hge := grownCap_ge w l.length 0 e
    have hsz : (⟨l.toArray⟩ : ByteArray).size = l.length := by simp [ByteArray.size]
    rw [hsz] at hrun
    refine .inl ⟨_, w.drew.alloc (.cells (bytesRow ⟨l.toArray⟩ (grownCap w l.length 0 e)) e ((bytesRow ⟨l.toArray⟩ (grownCap w l.length 0 e)).size, (bytesRow ⟨l.toArray⟩ (grownCap w l.length 0 e)).size + 1)), ?_, ⟨rfl, rfl, rfl⟩, hk ⟨some ⟨w.heap.size, 0, none⟩, l.length, grownCap w l.length 0 e, fun h => (by cases h), hge⟩ (w.heap.push _) ⟨rfl, fun j hj => ?_⟩ (Ext.push w.heap _) fun b hb => by simp [Sl.blk] at hb; subst hb; simp⟩
    · simp only [execOp, ho, h1, S, Sem.run_bind, hrun, Result.andThen, Sem.run_pure]
      rfl
    · rw [Sl.cell_eq]
      simp only [Option.getD_some]
      rw [add_plain]
      unfold hcell
      simp only [Nat.zero_add]
      rw [Array.getElem?_push, if_pos rfl]
      simp [bytesRow, hj, List.getD_eq_getElem?_getD, B8]
      rw [Array.getElem?_append_left (by simpa using hj)]
      simp [hj]
end
section
variable {C : Cx} {ops : Array Oper} {l : List Oper} {L : Env} {ds : List Nat} {H : Heap} {Kk : Env → Heap → Prop} {o : Oper}
theorem RegS.convStrN [Tbl C.P] {x : Operand} {bs : List UInt8} {st dt e sz bt sz' bt' sz'' bt'' dst : Nat} {z z' z'' : Value} (k : ∀ (s' : Sl) (H' : Heap), Bytes H' s' bs → Ext H H' → (∀ b, s'.blk = some b → H.size ≤ b ∧ b < H'.size) → RegS C ops l ((dst, s'.val) :: L) ds H' Kk)
    (ho : o.op = .convert st dt x := by rfl) (hx : L.ev x = some (S bs) := by rfl)
    (hs : ty C.P st = some ⟨.string, sz, bt, z⟩ := by rfl) (hd : ty C.P dt = some ⟨.slice e, sz', bt', z'⟩ := by rfl) (he : ty C.P e = some ⟨.int .u8, sz'', bt'', z''⟩ := by rfl)
    (hds : o.dst = some dst := by rfl) (hg : gd ops o L = some true := by rfl) (hdd : Nat.blt dst C.N = true := by rfl) : RegS C ops (o :: l) L ds H Kk :=
  RegS.ef hg (by rw [hds]; exact hdd) (Ef.convStrN ho hx hs hd he fun s' H' h1 h2 h3 => by rw [hds]; exact k s' H' h1 h2 h3)
end
end Go.Vc
