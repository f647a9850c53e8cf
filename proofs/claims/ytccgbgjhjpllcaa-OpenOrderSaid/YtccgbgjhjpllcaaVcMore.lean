/-
  The calculus, part 8: more operations that make memory.
-/
import Derived.Test.YtccgbgjhjpllcaaVMine
set_option linter.unusedVariables false
set_option linter.unusedSimpArgs false
namespace Go.Vc
/-- make([]T, 0, n). -/
def Sl.room (b n : Nat) : Sl := ⟨some ⟨b, 0, none⟩, 0, n, fun h => (by cases h), Nat.zero_le _⟩
section
variable {C : Cx} {ops : Array Oper} {l : List Oper} {L : Env} {ds : List Nat} {H : Heap} {Kk : Env → Heap → Prop} {o : Oper}
theorem Ef.makeRoom [Tbl C.P] {t n e sz bt bytes : Nat} {k k' : IntKind} {z z' : Value} {d : TypeDesc} {x y : Operand} {K : Value → Heap → Prop} (ho : o.op = .makeSlice t x y)
    (hx : L.ev x = some (.int k ((0 : Nat) : Int))) (hy : L.ev y = some (.int k' (n : Int))) (ht : ty C.P t = some ⟨.slice e, sz, bt, z⟩) (he : ty C.P e = some ⟨d, 1, bytes, z'⟩) (hz : oneCell z' = true) (hn : bytes * n ≤ 281474976710656) (hn2 : n ≤ 281474976710656)
    (hk : ∀ H', OwnR H' H.size e 1 (Sl.room H.size n) [] → Ext H H' → H'.size = H.size + 1 → K (Sl.room H.size n).val H') : Ef C o L H K :=
  Ef.of (by rw [ho]; rfl) fun act w ha hw => by
    subst hw
    have e1 := agr_of ha hx (by rw [ho]; simp [Op.operands])
    have e2 := agr_of ha hy (by rw [ho]; simp [Op.operands])
    obtain ⟨i, hi, hz1, hs1, hb1⟩ := ty.info he
    have hrun := run_make (P := C.P) w t e i z' (Tbl.ok.find ht).1 hi hz1 k k' 0 n (by omega) (by omega) (by rw [show i.bytes = bytes from hb1, ← Int.natCast_mul]; omega) (by omega)
    have hcells : madeCells z'.cells (n * i.size) = (List.replicate n z').toArray := by
      rw [oneCell_cells hz, hs1]
      apply Array.ext'
      apply List.ext_getElem
      · simp [madeCells]
      · intro j h1 h2; simp [madeCells, Nat.mod_one]
    have hown : OwnR (w.heap.push (.cells (List.replicate n z').toArray e)) w.heap.size e 1 (Sl.room w.heap.size n) [] := by
      refine ⟨by simp [Sl.room], .inr ⟨w.heap.size, (List.replicate n z').toArray, rfl, Nat.le_refl _, by rw [Array.getElem?_push, if_pos rfl], Nat.zero_le _, by simp only [maxLen, Sl.room]; omega, by simp [Sl.room], ?_⟩⟩
      simp [Sl.room]
    refine .inl ⟨(Sl.room w.heap.size n).val, { w with heap := w.heap.push (.cells (List.replicate n z').toArray e) }, ?_, ⟨rfl, rfl, rfl⟩, hk _ hown (Ext.push _ _) (by simp)⟩
    simp only [Int.toNat_natCast, hcells] at hrun
    simp only [execOp, ho, e1, e2, Sem.run_bind]
    rw [show ((0 : Nat) : Int) = 0 from rfl, hrun]
    rfl
theorem RegS.makeRoom [Tbl C.P] {t n e sz bt bytes dst : Nat} {k₁ k₂ : IntKind} {z z' : Value} {d : TypeDesc} {x y : Operand} (hn : bytes * n ≤ 281474976710656) (hn2 : n ≤ 281474976710656)
    (k : ∀ H', OwnR H' H.size e 1 (Sl.room H.size n) [] → Ext H H' → H'.size = H.size + 1 → RegS C ops l ((dst, (Sl.room H.size n).val) :: L) ds H' Kk)
    (ho : o.op = .makeSlice t x y := by rfl) (hx : L.ev x = some (.int k₁ ((0 : Nat) : Int)) := by rfl) (hy : L.ev y = some (.int k₂ (n : Int)) := by rfl) (ht : ty C.P t = some ⟨.slice e, sz, bt, z⟩ := by rfl) (he : ty C.P e = some ⟨d, 1, bytes, z'⟩ := by rfl) (hz : oneCell z' = true := by rfl)
    (hds : o.dst = some dst := by rfl) (hg : gd ops o L = some true := by rfl) (hd : Nat.blt dst C.N = true := by rfl) : RegS C ops (o :: l) L ds H Kk :=
  RegS.ef hg (by rw [hds]; exact hd) (Ef.makeRoom ho hx hy ht he hz hn hn2 fun H' a b c => by rw [hds]; exact k H' a b c)
end
/-- What is known tells what is asked. -/
theorem subs {E L : Env} (h : Sub E L := by repeat (first | exact trivial | refine ⟨rfl, ?_⟩)) : Sub E L := h
/-- All that was promised, asked once more. -/
theorem proms {C : Cx} [Tbl C.P] {ops : Array Oper} {H : Heap} {pend : List Rec} (h : Proms C ops H pend := by repeat (first | exact Proms.nil | refine Proms.cons prom ?_ | refine Proms.cons promS ?_)) : Proms C ops H pend := h
/-! ### More than one operation may be next -/
section
variable {C : Cx} {ops : Array Oper} {l : List Oper} {L : Env} {ds : List Nat} {H : Heap} {Kk : Env → Heap → Prop} {o : Oper} {B : Array Nat} {p alt : Plan} {pend : List Rec}
theorem RegE.call {i d : Nat} {keep : List Nat} {R : Value → Heap → Prop} {f : Operand} {xs : List Operand} {ts : Array TypeId} {g : FuncId} {first captured : List Value} {vs : List Value} (h : CallsH C.P g (first ++ (vs ++ captured)) H R)
    (hk : ∀ v H', R v H' → (Ext H H' ∨ Proms C ops H' (pfilter keep pend)) ∧ RegP C ops B p (pfilter keep pend) ((d, v) :: L) ds H' Kk) (a : RegE C ops B alt pend L ds H Kk)
    (ho : ops[i]? = some o := by rfl) (hds : o.dst = some d := by rfl) (hop : o.op = .call { callee := .value f, args := xs.toArray, argTypes := ts } := by rfl) (hf : L.ev f = some (.func (.func g) first.toArray captured.toArray) := by rfl) (hxs : evs L xs = some vs := by rfl)
    (hg : gd ops o L = some true := by rfl) (hd : Nat.blt d C.N = true := by rfl) : RegE C ops B (.e i keep p alt) pend L ds H Kk :=
  RegE.ef ho hg (by rw [hds]; exact hd) (calls_op hop hf hxs h (by rw [hds]; exact hk)) a
theorem RegE.append [Tbl C.P] {β : Type} {f : β → Value} {dd : β} {i t e sz bt bytes base dst : Nat} {keep : List Nat} {z z' : Value} {td : TypeDesc} {x y : Operand} {s r : Sl} {l' m : List β}
    (hown : OwnF f H base e s l') (hrow : RowF f dd H r m) (h1 : ∀ b, oneCell (f b) = true) (hbase : base ≤ H.size) (hl : (l'.length + m.length) * bytes ≤ 140737488355328) (hl2 : l'.length + m.length ≤ 9223372036854775807)
    (k : ∀ (s' : Sl) (H' : Heap), OwnF f H' base e s' (l' ++ m) → Chg (fun b => s.blk = some b) H H' → (s'.blk = s.blk ∨ ∃ b, s'.blk = some b ∧ H.size ≤ b) → (Ext H H' ∨ Proms C ops H' (pfilter keep pend)) ∧ RegP C ops B p (pfilter keep pend) ((dst, s'.val) :: L) ds H' Kk) (a : RegE C ops B alt pend L ds H Kk)
    (hi : ops[i]? = some o := by rfl) (ho : o.op = .call { callee := .builtin .append, args := #[x, y], argTypes := #[t, t] } := by rfl) (hx : L.ev x = some s.val := by rfl) (hy : L.ev y = some r.val := by rfl)
    (ht : ty C.P t = some ⟨.slice e, sz, bt, z⟩ := by rfl) (he : ty C.P e = some ⟨td, 1, bytes, z'⟩ := by rfl) (hz : oneCell z' = true := by rfl)
    (hds : o.dst = some dst := by rfl) (hg : gd ops o L = some true := by rfl) (hd : Nat.blt dst C.N = true := by rfl) : RegE C ops B (.e i keep p alt) pend L ds H Kk :=
  RegE.ef hi hg (by rw [hds]; exact hd) (Ef.append ho hx hy ht he hz hown hrow.row (fun v hv => by obtain ⟨b, _, rfl⟩ := List.mem_map.1 hv; exact h1 b) hbase (by simpa using hl) (by simpa using hl2)
    fun s' H' ho' hc hb => by rw [hds]; exact k s' H' (by rw [OwnF, List.map_append]; exact ho') hc hb) a
theorem RegE.buildSlice [Tbl C.P] {i t n e sz bt bytes dst : Nat} {keep : List Nat} {z z' : Value} {d : TypeDesc} {ps : List (Nat × Operand)} {vs : List Value}
    (k : ∀ H', OwnR H' H.size e 1 (Sl.fresh H.size n) vs → Ext H H' → H'.size = H.size + 1 → RegP C ops B p (pfilter keep pend) ((dst, (Sl.fresh H.size n).val) :: L) ds H' Kk) (a : RegE C ops B alt pend L ds H Kk)
    (hi : ops[i]? = some o := by rfl) (ho : o.op = .buildSlice t n ps.toArray := by rfl) (hp : pvs L 0 ps = some vs := by rfl) (ht : ty C.P t = some ⟨.slice e, sz, bt, z⟩ := by rfl) (he : ty C.P e = some ⟨d, 1, bytes, z'⟩ := by rfl) (hz : oneCell z' = true := by rfl) (hn : Nat.beq n vs.length = true := by rfl) (hn2 : Nat.ble n 1000 = true := by rfl) (h1 : allOne vs = true := by rfl)
    (hds : o.dst = some dst := by rfl) (hg : gd ops o L = some true := by rfl) (hd : Nat.blt dst C.N = true := by rfl) : RegE C ops B (.e i keep p alt) pend L ds H Kk :=
  RegE.ef hi hg (by rw [hds]; exact hd) (Ef.buildSlice ho hp ht he hz hn hn2 h1 fun H' a b c => by rw [hds]; exact ⟨.inl b, k H' a b c⟩) a
end
section
variable {H H' : Heap} {b : Nat} {e : TypeId} {vs : List Value}
theorem Blk.chg {S : Nat → Prop} (h : Blk H b e vs) (c : Chg S H H') (hs : ¬S b) : Blk H' b e vs := ⟨(c.get b h.lt hs).trans h.at_⟩
theorem Blk.keep {B : Nat} (h : Blk H b e vs) (k : Keep B H H') : Blk H' b e vs := ⟨k.cells h.at_⟩
theorem Blk.above {B : Nat} (h : Blk H b e vs) (c : Above B H H') (hb : B ≤ b) : Blk H' b e vs := ⟨(c.get b hb h.lt).trans h.at_⟩
theorem Blk.wr {j : Nat} (h : Blk H b e vs) (hj : j < vs.length) : Wr H ⟨b, j, none⟩ := blk_wr h.at_ (by simpa using hj)
theorem Blk.set {j : Nat} {v : Value} (h : Blk H b e vs) : Blk (hset H ⟨b, j, none⟩ v) b e (vs.set j v) := ⟨by rw [blk_set h.at_]; simp⟩
end
theorem OwnR.keep {B base : Nat} {A A' : Heap} {e : TypeId} {size : Nat} {s : Sl} {xs : List Value} (h : OwnR A base e size s xs) (k : Keep B A A') : OwnR A' base e size s xs := by
  refine ⟨h.1, h.2.imp id ?_⟩
  rintro ⟨g, cur, ha, hb, hh, r⟩
  exact ⟨g, cur, ha, hb, k.cells hh, r⟩
/-- A slice of slices of bytes. -/
structure BRows (H : Heap) (s : Sl) (ss : List Sl) (ls : List (List UInt8)) : Prop where
  row : RowF Sl.val Sl.nil H s ss
  len : ss.length = ls.length
  each : ∀ k, k < ls.length → Bytes H (ss.getD k Sl.nil) (ls.getD k [])
theorem BRows.ext {H H' : Heap} {s : Sl} {ss : List Sl} {ls : List (List UInt8)} (h : BRows H s ss ls) (e : Ext H H') : BRows H' s ss ls := ⟨h.row.ext e, h.len, fun k hk => (h.each k hk).ext e⟩
end Go.Vc
