/-
  The calculus, part 12: pointers that are none, texts as bytes, rows of pairs, a struct in a row of its own.
-/
import Derived.Test.YtaikdcnifijcoaaGreatQ05
import Derived.Laws.Pointers
import Derived.Maps.AppendAt
set_option linter.unusedVariables false
set_option linter.unusedSimpArgs false
namespace Go.Vc
section
variable {C : Cx} {o : Oper} {L : Env} {H : Heap}
theorem Rd.eqlPtr [Tbl C.P] {x y : Operand} {t t' e sz bt : Nat} {z : Value} {p : Option Addr} (ho : o.op = .binOp .eql t x y t') (hx : L.ev x = some (.pointer p)) (hy : L.ev y = some (.pointer none)) (ht : ty C.P t = some ⟨.pointer e, sz, bt, z⟩) : Rd C o L H (.bool p.isNone) :=
  Rd.of (by rw [ho]; rfl) fun act w ha ex => by
    have h1 := agr_of ha hx (by rw [ho]; simp [Op.operands])
    have h2 := agr_of ha hy (by rw [ho]; simp [Op.operands])
    have hu := (Tbl.ok.find ht).1
    have e2 := run_eql_pointer_nil (P := C.P) w t p (by rw [Program.pointee, hu])
    simp only [execOp, ho, h1, h2, Sem.run_bind]
    simp [eqGuard, e2, Result.andThen, Sem.run]
theorem Rd.neqPtr [Tbl C.P] {x y : Operand} {t t' e sz bt : Nat} {z : Value} {p : Option Addr} (ho : o.op = .binOp .neq t x y t') (hx : L.ev x = some (.pointer p)) (hy : L.ev y = some (.pointer none)) (ht : ty C.P t = some ⟨.pointer e, sz, bt, z⟩) : Rd C o L H (.bool (!p.isNone)) :=
  Rd.of (by rw [ho]; rfl) fun act w ha ex => by
    have h1 := agr_of ha hx (by rw [ho]; simp [Op.operands])
    have h2 := agr_of ha hy (by rw [ho]; simp [Op.operands])
    have hu := (Tbl.ok.find ht).1
    have e2 := run_neq_pointer_nil (P := C.P) w t p (by rw [Program.pointee, hu])
    simp only [execOp, ho, h1, h2, Sem.run_bind]
    simp [eqGuard, e2, Result.andThen, Sem.run]
/-- []byte(text). -/
theorem Ef.convStr [Tbl C.P] {x : Operand} {l : List UInt8} {st dt e sz bt sz' bt' sz'' bt'' : Nat} {z z' z'' : Value} {K : Value → Heap → Prop} (ho : o.op = .convert st dt x) (hx : L.ev x = some (S l))
    (hs : ty C.P st = some ⟨.string, sz, bt, z⟩) (hd : ty C.P dt = some ⟨.slice e, sz', bt', z'⟩) (he : ty C.P e = some ⟨.int .u8, sz'', bt'', z''⟩)
    (hk : ∀ (s' : Sl) (H' : Heap), Bytes H' s' l → Ext H H' → K s'.val H') : Ef C o L H K :=
  Ef.of (by rw [ho]; rfl) fun act w ha hw => by
    have h1 := agr_of ha hx (by rw [ho]; simp [Op.operands])
    subst hw
    have hrun := run_bytes_of_string (P := C.P) w st dt e ⟨l.toArray⟩ (Tbl.ok.find hs).1 (Tbl.ok.find hd).1 (Tbl.ok.find he).1
    have hge := grownCap_ge w l.length 0 e
    have hsz : (⟨l.toArray⟩ : ByteArray).size = l.length := by simp [ByteArray.size]
    rw [hsz] at hrun
    refine .inl ⟨_, w.drew.alloc (.cells (bytesRow ⟨l.toArray⟩ (grownCap w l.length 0 e)) e ((bytesRow ⟨l.toArray⟩ (grownCap w l.length 0 e)).size, (bytesRow ⟨l.toArray⟩ (grownCap w l.length 0 e)).size + 1)), ?_, ⟨rfl, rfl, rfl⟩, hk ⟨some ⟨w.heap.size, 0, none⟩, l.length, grownCap w l.length 0 e, fun h => (by cases h), hge⟩ (w.heap.push _) ⟨rfl, fun j hj => ?_⟩ (Ext.push w.heap _)⟩
    · simp only [execOp, ho, h1, S, Sem.run_bind, hrun, Result.andThen, Sem.run_pure]
      rfl
    · rw [Sl.cell_eq]
      simp only [Option.getD_some]
      rw [add_plain]
      unfold hcell
      simp only [Nat.zero_add]
      rw [Array.getElem?_push, if_pos rfl]
      simp [bytesRow, hj, List.getD_eq_getElem?_getD, B8]
      rw [Array.getElem?_append_left (by simpa using hj)]
      simp [hj]
end
theorem OwnR.cells {H : Heap} {base size : Nat} {e : TypeId} {s : Sl} {xs : List Value} (h : OwnR H base e size s xs) {j : Nat} {v : Value} (hj : xs[j]? = some v) : hcell H (s.cell j) = some v := by
  obtain ⟨h1, h2⟩ := h
  have hlt : j < xs.length := (List.getElem?_eq_some_iff.1 hj).1
  rcases h2 with h2 | ⟨g, cur, ha, hg, hh, hl, hm, hc, ht⟩
  · have := (s.ok h2).1; rw [this] at h1; omega
  · rw [Sl.cell_eq, ha]
    simp only [Option.getD_some]
    rw [add_plain]
    unfold hcell
    simp only [hh]
    have : cur.toList[j]? = some v := by
      rw [← ht] at hj
      rw [List.getElem?_take] at hj
      split at hj
      · exact hj
      · cases hj
    simpa using this
section
variable {C : Cx} {o : Oper} {L : Env} {H : Heap}
/-- append to a row of one's own whose elements are more than one cell each. -/
theorem Ef.appendN [Tbl C.P] {t e sz bt bytes size : Nat} {z z' : Value} {d : TypeDesc} {x y : Operand} {s r : Sl} {xs ys : List Value} {base : Nat} {K : Value → Heap → Prop}
    (ho : o.op = .call { callee := .builtin .append, args := #[x, y], argTypes := #[t, t] }) (hx : L.ev x = some s.val) (hy : L.ev y = some r.val)
    (ht : ty C.P t = some ⟨.slice e, sz, bt, z⟩) (he : ty C.P e = some ⟨d, size, bytes, z'⟩) (hzs : z'.cells.size = size) (hs0 : 0 < size)
    (hown : OwnR H base e size s xs) (hrl : ys.length = r.len * size) (hrow : ∀ j u, ys[j]? = some u → hcell H (r.cell j) = some u) (h1 : ∀ v ∈ ys, oneCell v = true) (hbase : base ≤ H.size)
    (hl : (s.len + r.len) * bytes ≤ 140737488355328) (hl2 : s.len + r.len ≤ 9223372036854775807)
    (hk : ∀ (s' : Sl) (H' : Heap), OwnR H' base e size s' (xs ++ ys) → Chg (fun b => s.blk = some b) H H' → (s'.blk = s.blk ∨ ∃ b, s'.blk = some b ∧ H.size ≤ b) → K s'.val H') : Ef C o L H K :=
  Ef.of (by rw [ho]; rfl) fun act w ha hw => by
    have e1 := agr_of ha hx (by rw [ho]; simp [Op.operands, Call.operands])
    have e2 := agr_of ha hy (by rw [ho]; simp [Op.operands, Call.operands])
    subst hw
    obtain ⟨i, hi, hz1, hs1, hb1⟩ := ty.info he
    have hrun : ∃ v' w' n, (Builtin.append_ #[t, t] o.type #[s.val, r.val]).run C.P w = .ok v' w' ∧ w'.ownsRow base e size v' n (xs ++ ys) ∧ w.grownBy w' s.val.ownBlock ∧ (v'.ownBlock = s.val.ownBlock ∨ ∃ b, v'.ownBlock = some b ∧ w.heap.size ≤ b) := by
      cases hr : r.ao with
      | none =>
        obtain ⟨h3, h4⟩ := r.ok hr
        have hys : ys = [] := List.eq_nil_of_length_eq_zero (by rw [hrl, h3]; omega)
        subst hys
        have := run_append_owned_none (P := C.P) (w := w) base t o.type e i size (Tbl.ok.find ht).1 hi s.val s.len xs hown.to
        refine ⟨s.val, w, s.len, ?_, by simpa using hown.to, ⟨rfl, rfl, rfl, Nat.le_refl _, fun _ _ _ => rfl⟩, .inl rfl⟩
        simpa [Sl.val, hr, h3, h4] using this
      | some ad =>
        obtain ⟨v', w', h2, h3, h4, h5, h6⟩ := run_append_own_at (P := C.P) w base t o.type e i z' size bytes (Tbl.ok.find ht).1 hi hz1 hs1 hb1 hzs hs0 s.val s.len xs hown.to
          ad r.len r.cap ys hrl (fun j u hj => by rw [add_eq_cell r ad hr]; exact hrow j u hj) (fun u hu => by have := h1 u hu; cases u <;> simp_all [oneCell, Value.oneCell'])
          (by simpa [maxLen] using hl2) hl hbase
        refine ⟨v', w', _, by simpa [Sl.val, hr] using h2, h3, h4, ?_⟩
        exact h6.imp id fun h => ⟨_, h, Nat.le_refl _⟩
    obtain ⟨v', w', n, h2, h3, h4, h5⟩ := hrun
    have hblk : s.blk = s.val.ownBlock := by cases hh : s.ao <;> simp [Sl.blk, Sl.val, Value.ownBlock, hh]
    obtain ⟨s', rfl, hl', ho', hb'⟩ := OwnR.of h3
    refine .inl ⟨s'.val, w', ?_, ⟨h4.os, h4.tape, h4.output⟩, hk s' _ ho' ⟨h4.size, fun b hb hs => h4.block b hb (fun e => hs (by rw [hblk]; exact e.symm))⟩ ?_⟩
    · simp [execOp, ho, resolve, invoke, builtin, e1, e2, h2, Result.andThen, Sem.run_bind, Sem.run]
    · rw [hb', hblk]
      exact h5
theorem Ef.buildOne {t e : Nat} {x : Operand} {cs : List Value} {K : Value → Heap → Prop} (ho : o.op = .buildSlice t 1 #[(0, x)]) (hx : L.ev x = some (.agg cs.toArray))
    (h : ∀ w, (Instr.buildSlice t 1 #[(0, .agg cs.toArray)]).run C.P w = .ok (.slice (some ⟨w.heap.size, 0, none⟩) 1 1) { w with heap := w.heap.push (.cells cs.toArray e) })
    (hk : ∀ H', Blk H' H.size e cs → Ext H H' → H'.size = H.size + 1 → K (Sl.fresh H.size 1).val H') : Ef C o L H K :=
  Ef.of (by rw [ho]; rfl) fun act w ha hw => by
    subst hw
    have e1 := agr_of ha hx (by rw [ho]; simp [Op.operands])
    refine .inl ⟨(Sl.fresh w.heap.size 1).val, { w with heap := w.heap.push (.cells cs.toArray e) }, ?_, ⟨rfl, rfl, rfl⟩, hk _ ⟨by rw [Array.getElem?_push, if_pos rfl]⟩ (Ext.push _ _) (by simp)⟩
    have h2 : Array.map (fun p : Nat × Operand => (p.fst, act.eval p.snd)) #[(0, x)] = #[(0, .agg cs.toArray)] := by simp [e1]
    simp only [execOp, ho, Sem.run_bind]
    rw [h2, h]
    rfl
theorem Ef.buildNone {t e n : Nat} {K : Value → Heap → Prop} (ho : o.op = .buildSlice t 0 #[])
    (h : ∀ w, (Instr.buildSlice t 0 #[]).run C.P w = .ok (.slice (some ⟨w.heap.size, 0, none⟩) 0 0) { w with heap := w.heap.push (.cells #[] e) })
    (hk : ∀ H', OwnR H' H.size e n (Sl.fresh H.size 0) [] → Ext H H' → H'.size = H.size + 1 → K (Sl.fresh H.size 0).val H') : Ef C o L H K :=
  Ef.of (by rw [ho]; rfl) fun act w ha hw => by
    subst hw
    refine .inl ⟨(Sl.fresh w.heap.size 0).val, { w with heap := w.heap.push (.cells #[] e) }, ?_, ⟨rfl, rfl, rfl⟩, hk _ ⟨by simp [Sl.fresh], .inr ⟨w.heap.size, #[], rfl, Nat.le_refl _, by rw [Array.getElem?_push, if_pos rfl], Nat.le_refl _, by simp [Sl.fresh, maxLen], by simp [Sl.fresh], by simp [Sl.fresh]⟩⟩ (Ext.push _ _) (by simp)⟩
    have h2 : Array.map (fun p : Nat × Operand => (p.fst, act.eval p.snd)) #[] = #[] := by simp
    simp only [execOp, ho, Sem.run_bind]
    rw [h2, h]
    rfl
end
section
variable {C : Cx} {ops : Array Oper} {l : List Oper} {L : Env} {ds : List Nat} {H : Heap} {Kk : Env → Heap → Prop} {o : Oper}
theorem RegS.convStr [Tbl C.P] {x : Operand} {bs : List UInt8} {st dt e sz bt sz' bt' sz'' bt'' dst : Nat} {z z' z'' : Value} (k : ∀ (s' : Sl) (H' : Heap), Bytes H' s' bs → Ext H H' → RegS C ops l ((dst, s'.val) :: L) ds H' Kk)
    (ho : o.op = .convert st dt x := by rfl) (hx : L.ev x = some (S bs) := by rfl)
    (hs : ty C.P st = some ⟨.string, sz, bt, z⟩ := by rfl) (hd : ty C.P dt = some ⟨.slice e, sz', bt', z'⟩ := by rfl) (he : ty C.P e = some ⟨.int .u8, sz'', bt'', z''⟩ := by rfl)
    (hds : o.dst = some dst := by rfl) (hg : gd ops o L = some true := by rfl) (hdd : Nat.blt dst C.N = true := by rfl) : RegS C ops (o :: l) L ds H Kk :=
  RegS.ef hg (by rw [hds]; exact hdd) (Ef.convStr ho hx hs hd he fun s' H' h1 h2 => by rw [hds]; exact k s' H' h1 h2)
theorem RegS.appendN [Tbl C.P] {t e sz bt bytes size base dst : Nat} {z z' : Value} {d : TypeDesc} {x y : Operand} {s r : Sl} {xs ys : List Value}
    (hown : OwnR H base e size s xs) (hrl : ys.length = r.len * size) (hrow : ∀ j u, ys[j]? = some u → hcell H (r.cell j) = some u) (h1 : ∀ v ∈ ys, oneCell v = true) (hbase : base ≤ H.size)
    (hl : (s.len + r.len) * bytes ≤ 140737488355328) (hl2 : s.len + r.len ≤ 9223372036854775807)
    (k : ∀ (s' : Sl) (H' : Heap), OwnR H' base e size s' (xs ++ ys) → Chg (fun b => s.blk = some b) H H' → (s'.blk = s.blk ∨ ∃ b, s'.blk = some b ∧ H.size ≤ b) → RegS C ops l ((dst, s'.val) :: L) ds H' Kk)
    (ho : o.op = .call { callee := .builtin .append, args := #[x, y], argTypes := #[t, t] } := by rfl) (hx : L.ev x = some s.val := by rfl) (hy : L.ev y = some r.val := by rfl)
    (ht : ty C.P t = some ⟨.slice e, sz, bt, z⟩ := by rfl) (he : ty C.P e = some ⟨d, size, bytes, z'⟩ := by rfl) (hzs : z'.cells.size = size := by rfl) (hs0 : Nat.blt 0 size = true := by rfl)
    (hds : o.dst = some dst := by rfl) (hg : gd ops o L = some true := by rfl) (hdd : Nat.blt dst C.N = true := by rfl) : RegS C ops (o :: l) L ds H Kk :=
  RegS.ef hg (by rw [hds]; exact hdd) (Ef.appendN ho hx hy ht he hzs (by simpa [Nat.blt_eq] using hs0) hown hrl hrow h1 hbase hl hl2 fun s' H' a b c => by rw [hds]; exact k s' H' a b c)
theorem RegS.buildOne {t e dst : Nat} {x : Operand} {cs : List Value} (e' : Nat) (k : ∀ H', Blk H' H.size e' cs → Ext H H' → H'.size = H.size + 1 → RegS C ops l ((dst, (Sl.fresh H.size 1).val) :: L) ds H' Kk)
    (ho : o.op = .buildSlice t 1 #[(0, x)] := by rfl) (hx : L.ev x = some (.agg cs.toArray) := by rfl)
    (h : ∀ w, (Instr.buildSlice t 1 #[(0, .agg cs.toArray)]).run C.P w = .ok (.slice (some ⟨w.heap.size, 0, none⟩) 1 1) { w with heap := w.heap.push (.cells cs.toArray e') } := by intro w; kernel_rfl)
    (hds : o.dst = some dst := by rfl) (hg : gd ops o L = some true := by rfl) (hdd : Nat.blt dst C.N = true := by rfl) : RegS C ops (o :: l) L ds H Kk :=
  RegS.ef hg (by rw [hds]; exact hdd) (Ef.buildOne ho hx h fun H' a b c => by rw [hds]; exact k H' a b c)
theorem RegS.buildNone {t dst : Nat} (e n : Nat) (k : ∀ H', OwnR H' H.size e n (Sl.fresh H.size 0) [] → Ext H H' → H'.size = H.size + 1 → RegS C ops l ((dst, (Sl.fresh H.size 0).val) :: L) ds H' Kk)
    (ho : o.op = .buildSlice t 0 #[] := by rfl)
    (h : ∀ w, (Instr.buildSlice t 0 #[]).run C.P w = .ok (.slice (some ⟨w.heap.size, 0, none⟩) 0 0) { w with heap := w.heap.push (.cells #[] e) } := by intro w; kernel_rfl)
    (hds : o.dst = some dst := by rfl) (hg : gd ops o L = some true := by rfl) (hdd : Nat.blt dst C.N = true := by rfl) : RegS C ops (o :: l) L ds H Kk :=
  RegS.ef hg (by rw [hds]; exact hdd) (Ef.buildNone ho h fun H' a b c => by rw [hds]; exact k H' a b c)
end
/-! ### Rows of pairs: a text, a number -/
abbrev HdT := List UInt8 × Int
def hdV (x : HdT) : List Value := [S x.1, .int .i64 x.2]
structure HRow (H : Heap) (s : Sl) (l : List HdT) : Prop where
  len : s.len = l.length
  fst : ∀ j, j < l.length → hcell H (s.cell (j * 2)) = some (S (l.getD j ([], 0)).1)
  snd : ∀ j, j < l.length → hcell H (s.cell (j * 2 + 1)) = some (.int .i64 (l.getD j ([], 0)).2)
theorem HRow.ext {H H' : Heap} {s : Sl} {l : List HdT} (h : HRow H s l) (e : Ext H H') : HRow H' s l := ⟨h.len, fun j hj => e.cell (h.fst j hj), fun j hj => e.cell (h.snd j hj)⟩
theorem HRow.nil (H : Heap) : HRow H Sl.nil [] := ⟨rfl, fun j hj => absurd hj (by simp), fun j hj => absurd hj (by simp)⟩
theorem hdV_flat (l : List HdT) : (l.flatMap hdV).length = l.length * 2 := by
  induction l with
  | nil => rfl
  | cons a r ih => rw [List.flatMap_cons, List.length_append, ih]; simp [hdV]; omega
theorem hdV_get : ∀ (l : List HdT) (j : Nat), j < l.length → (l.flatMap hdV)[j * 2]? = some (S (l.getD j ([], 0)).1) ∧ (l.flatMap hdV)[j * 2 + 1]? = some (.int .i64 (l.getD j ([], 0)).2)
  | [], j, h => absurd h (by simp)
  | a :: r, 0, _ => by simp [hdV]
  | a :: r, j + 1, h => by
    have ih := hdV_get r j (by simpa using h)
    have e1 : (j + 1) * 2 = j * 2 + 2 := by omega
    have e2 : (j + 1) * 2 + 1 = j * 2 + 1 + 2 := by omega
    rw [e1]
    simp only [List.flatMap_cons, hdV, List.cons_append, List.nil_append, List.getElem?_cons_succ, List.getD_cons_succ]
    exact ih
theorem HRow.get {H : Heap} {s : Sl} {l : List HdT} (h : HRow H s l) : ∀ j u, (l.flatMap hdV)[j]? = some u → hcell H (s.cell j) = some u := by
  intro j u hj
  have hlt := (List.getElem?_eq_some_iff.1 hj).1
  rw [hdV_flat] at hlt
  have g := hdV_get l (j / 2) (by omega)
  rcases Nat.mod_two_eq_zero_or_one j with e | e
  · have ej : j = j / 2 * 2 := by omega
    have h1 := h.fst (j / 2) (by omega)
    rw [← ej] at g h1
    rw [h1, ← g.1, hj]
  · have ej : j = j / 2 * 2 + 1 := by omega
    have h1 := h.snd (j / 2) (by omega)
    rw [← ej] at g h1
    rw [h1, ← g.2, hj]
theorem OwnR.hrow {H : Heap} {base : Nat} {e : TypeId} {s : Sl} {l : List HdT} (h : OwnR H base e 2 s (l.flatMap hdV)) : HRow H s l := by
  have h1 := h.1
  rw [hdV_flat] at h1
  exact ⟨by omega, fun j hj => h.cells (hdV_get l j hj).1, fun j hj => h.cells (hdV_get l j hj).2⟩
theorem hdV_one (l : List HdT) : ∀ v ∈ l.flatMap hdV, oneCell v = true := by
  intro v hv
  obtain ⟨x, _, hx⟩ := List.mem_flatMap.1 hv
  simp only [hdV, List.mem_cons, List.not_mem_nil, or_false] at hx
  rcases hx with rfl | rfl <;> rfl
theorem RowF.chgN {β : Type} {f : β → Value} {d : β} {S : Nat → Prop} {H H' : Heap} {s : Sl} {l : List β} (h : RowF f d H s l) (c : Chg S H H') (hs : 0 < s.len → ∀ b, s.blk = some b → b < H.size ∧ ¬ S b) : RowF f d H' s l := by
  by_cases hp : 0 < s.len
  · exact h.chg c (hs hp)
  · exact ⟨h.len, fun j hj => absurd hj (by have := h.len; omega)⟩
theorem RowF.lt {β : Type} {f : β → Value} {d : β} {H : Heap} {s : Sl} {l : List β} (h : RowF f d H s l) : 0 < s.len → ∀ b, s.blk = some b → b < H.size := fun hp b hb => by
  have := hcell_lt (h.cell 0 (by have := h.len; omega))
  rwa [Sl.cell_blk hb] at this
theorem HRow.lt {H : Heap} {s : Sl} {l : List HdT} (h : HRow H s l) : 0 < s.len → ∀ b, s.blk = some b → b < H.size := fun hp b hb => by
  have := hcell_lt (h.fst 0 (by have := h.len; omega))
  rwa [Sl.cell_blk hb] at this
theorem HRow.chgN {S : Nat → Prop} {H H' : Heap} {s : Sl} {l : List HdT} (h : HRow H s l) (c : Chg S H H') (hs : 0 < s.len → ∀ b, s.blk = some b → ¬ S b) : HRow H' s l := by
  by_cases hp : 0 < s.len
  · obtain ⟨b, hb⟩ := Sl.blk_some hp
    have hlt := h.lt hp b hb
    have hS := hs hp b hb
    exact ⟨h.len, fun j hj => (hcell_block (by rw [Sl.cell_blk hb]; exact c.get b hlt hS)).trans (h.fst j hj), fun j hj => (hcell_block (by rw [Sl.cell_blk hb]; exact c.get b hlt hS)).trans (h.snd j hj)⟩
  · exact ⟨h.len, fun j hj => absurd hj (by have := h.len; omega), fun j hj => absurd hj (by have := h.len; omega)⟩
end Go.Vc
