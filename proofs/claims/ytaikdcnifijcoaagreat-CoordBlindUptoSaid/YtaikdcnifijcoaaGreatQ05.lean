/-
  Rows of bytes that nobody else writes.
-/
import Derived.Test.YtaikdcnifijcoaaGreatQ02
import Derived.Test.YtaikdcnifijcoaaGreatQ04
import Derived.Laws.IdiomCopy
import Derived.Lib.AppendZeros
import Derived.Laws.AppendOwn
set_option linter.unusedVariables false
set_option linter.unusedSimpArgs false
namespace Go.Vc
theorem hfrozen_block {H H' : Heap} {a : Addr} (h : H'[a.block]? = H[a.block]?) : hfrozen H' a = hfrozen H a := by
  unfold hfrozen; rw [h]
theorem Sl.cell_blk {s : Sl} {b : Nat} (h : s.blk = some b) (j : Nat) : (s.cell j).block = b := by
  rw [Sl.cell_eq]
  unfold Sl.blk at h
  cases hs : s.ao with
  | none => rw [hs] at h; simp at h
  | some a =>
    rw [hs] at h
    simp only [Option.map_some, Option.some.injEq] at h
    simp only [Option.getD_some]
    unfold Addr.add
    split
    · exact h
    · exact h
theorem Sl.blk_some {s : Sl} (h : 0 < s.len) : ∃ b, s.blk = some b := by
  unfold Sl.blk
  cases hs : s.ao with
  | none => have := (s.ok hs).1; omega
  | some a => exact ⟨_, rfl⟩
/-- A row of bytes in a block from 'base' on, whose cells may be written. -/
structure Mine (H : Heap) (base : Nat) (s : Sl) (l : List UInt8) : Prop where
  bytes : Bytes H s l
  blk : ∀ b, s.blk = some b → base ≤ b ∧ b < H.size
  free : ∀ j, j < l.length → hfrozen H (s.cell j) = false
  cap : s.cap ≤ 9223372036854775807
section
variable {H H' : Heap} {base : Nat} {s : Sl} {l : List UInt8}
theorem Mine.low {base' : Nat} (h : Mine H base s l) (hb : base' ≤ base) : Mine H base' s l := ⟨h.bytes, fun b k => ⟨Nat.le_trans hb (h.blk b k).1, (h.blk b k).2⟩, h.free, h.cap⟩
theorem Mine.chg {S : Nat → Prop} (h : Mine H base s l) (c : Chg S H H') (hs : ∀ b, s.blk = some b → ¬S b) : Mine H' base s l := by
  have hc : ∀ j, j < l.length → H'[(s.cell j).block]? = H[(s.cell j).block]? := fun j hj => by
    obtain ⟨b, hb⟩ := Sl.blk_some (s := s) (by rw [h.bytes.len]; omega)
    rw [Sl.cell_blk hb]
    exact c.get b (h.blk b hb).2 (hs b hb)
  exact ⟨⟨h.bytes.len, fun j hj => (hcell_block (hc j hj)).trans (h.bytes.cell j hj)⟩, fun b k => ⟨(h.blk b k).1, Nat.lt_of_lt_of_le (h.blk b k).2 c.size⟩, fun j hj => (hfrozen_block (hc j hj)).trans (h.free j hj), h.cap⟩
theorem Mine.ext (h : Mine H base s l) (e : Ext H H') : Mine H' base s l := h.chg (e.chg fun _ => False) fun _ _ k => k
theorem Mine.wr (h : Mine H base s l) {j : Nat} (hj : j < l.length) : Wr H (s.cell j) := ⟨⟨_, h.bytes.cell j hj⟩, h.free j hj⟩
theorem OwnR.mine {e : TypeId} (h : OwnF B8 H base e s l) : Mine H base s l :=
  ⟨h.rowF, fun b hb => h.blk_ge hb, fun j hj => h.frozen (by simpa using hj), by
    rcases h.2 with h2 | ⟨g, cur, ha, hg, hh, hl, hm, _⟩
    · have := (s.ok h2).2; omega
    · simpa [maxLen] using hm⟩
theorem Sl.cell_inj {s : Sl} {i j : Nat} (h : i ≠ j) : (s.cell i).block ≠ (s.cell j).block ∨ (s.cell i).off ≠ (s.cell j).off := by
  refine .inr ?_
  rw [Sl.cell_eq, Sl.cell_eq]
  unfold Addr.add
  split <;> split <;> simp <;> omega
theorem hset_frozen (H : Heap) (a c : Addr) (v : Value) : hfrozen (hset H a v) c = hfrozen H c := by
  by_cases hb : c.block = a.block
  · unfold hfrozen
    rw [hb]
    unfold hset
    rw [Array.getElem?_modify, if_pos rfl]
    cases H[a.block]? with
    | none => rfl
    | some o => cases o <;> rfl
  · exact hfrozen_block (hset_other hb)
theorem Mine.set (h : Mine H base s l) {j : Nat} (hj : j < l.length) (v : UInt8) : Mine (hset H (s.cell j) (B8 v)) base s (l.set j v) ∧ Chg (fun b => s.blk = some b) H (hset H (s.cell j) (B8 v)) := by
  obtain ⟨b, hb⟩ := Sl.blk_some (s := s) (by rw [h.bytes.len]; omega)
  refine ⟨⟨⟨by rw [List.length_set]; exact h.bytes.len, fun i hi => ?_⟩, fun b k => by rw [hset_size]; exact h.blk b k, fun i hi => by rw [hset_frozen]; exact h.free i (by simpa using hi), h.cap⟩, ?_⟩
  · rw [List.length_set] at hi
    by_cases e : i = j
    · subst e
      rw [hcell_hset_same (h.bytes.cell i hi)]
      simp [List.getD_eq_getElem?_getD, hi]
    · rw [hcell_hset_ne (h.bytes.cell i hi) (Sl.cell_inj e)]
      have e' : ¬ j = i := fun k => e k.symm
      simp [List.getD_eq_getElem?_getD, List.getElem?_set, e']
  · exact (hset_chg H (s.cell j) (B8 v)).mono fun b' _ hb' => by rw [Sl.cell_blk hb] at hb'; subst hb'; exact hb
theorem Mine.cut {a h m : Nat} (hm : Mine H base s l) (hh : a ≤ h ∧ h ≤ m ∧ m ≤ s.cap) (hl : h ≤ l.length) : Mine H base (s.cut a h m) ((l.take h).drop a) := by
  refine ⟨hm.bytes.cut hh hl, fun b hb => hm.blk b (Sl.cut_blk hb), fun j hj => ?_, ?_⟩
  · simp at hj
    rw [Sl.cut_cell hh (by omega)]
    exact hm.free _ (by omega)
  · rw [Sl.cut_cap hh]; have := hm.cap; omega
end
/-- A fresh row comes back; all else is as it was. -/
def New (H : Heap) (l : List UInt8) (v : Value) (H' : Heap) : Prop := ∃ s, v = s.val ∧ Mine H' H.size s l ∧ Ext H H'
theorem get_int {L : Env} {t : Nat} {k : IntKind} {x y : Int} (h : L.get t = some (.int k x)) (e : x = y) : L.get t = some (.int k y) := e ▸ h
/-- A growth, or a turn of a block that holds no cells. -/
inductive Keep (B : Nat) (A : Heap) : Heap → Prop
  | ext {A' : Heap} : Ext A A' → Keep B A A'
  | put {l : Nat} {o o' : Obj} : B ≤ l → A[l]? = some o → (∀ c e z, o ≠ .cells c e z) → Keep B A (A.setIfInBounds l o')
section
variable {B : Nat} {A A' : Heap}
theorem Keep.size (k : Keep B A A') : A.size ≤ A'.size := by
  cases k with
  | ext e => exact e.size
  | put => simp
theorem Keep.cells (k : Keep B A A') {b : Nat} {c : Array Value} {e : TypeId} {z : Nat × Nat} (h : A[b]? = some (.cells c e z)) : A'[b]? = some (.cells c e z) := by
  cases k with
  | ext x => exact x.blk h
  | put hl ho hn =>
    rename_i l o o'
    have : b ≠ l := by
      rintro rfl
      rw [h] at ho
      simp only [Option.some.injEq] at ho
      exact hn _ _ _ ho.symm
    rw [Array.getElem?_setIfInBounds_ne (fun e => this e.symm)]; exact h
theorem Keep.cell (k : Keep B A A') {a : Addr} {v : Value} (h : hcell A a = some v) : hcell A' a = some v := by
  have h' := h
  unfold hcell at h'
  split at h'
  · rename_i c e z hb
    exact (hcell_block (H := A) ((k.cells hb).trans hb.symm)).trans h
  · cases h'
theorem Keep.above (k : Keep B A A') {H0 : Heap} (e : Ext H0 A) (h : H0.size ≤ B) : Ext H0 A' := by
  cases k with
  | ext x => exact e.trans x
  | put hl ho hn => exact put_ext e (by omega)
theorem RowF.keep {β : Type} {f : β → Value} {d : β} {s : Sl} {l : List β} (h : RowF f d A s l) (k : Keep B A A') : RowF f d A' s l := ⟨h.len, fun j hj => k.cell (h.cell j hj)⟩
theorem Box.keep {b : Nat} {e : TypeId} {v : Value} (h : Box A b e v) (k : Keep B A A') : Box A' b e v := ⟨k.cells h.at_⟩
theorem Mine.keep {base : Nat} {s : Sl} {l : List UInt8} (h : Mine A base s l) (k : Keep B A A') : Mine A' base s l := by
  refine ⟨h.bytes.keep k, fun b hb => ⟨(h.blk b hb).1, Nat.lt_of_lt_of_le (h.blk b hb).2 k.size⟩, fun j hj => ?_, h.cap⟩
  have h1 := h.bytes.cell j hj
  unfold hcell at h1
  split at h1
  · rename_i c e z hb
    exact (hfrozen_block (H := A) ((k.cells hb).trans hb.symm)).trans (h.free j hj)
  · cases h1
end
theorem Keep.shut {B D : Nat} {A : Heap} (hD : B ≤ D) (hd : A[D]? = some (.deferred (some []))) : Keep B A (A.setIfInBounds D (.deferred none)) := .put hD hd (by intros; simp)
/-- What a cell holds at the return. -/
theorem run_loadBox {P : Program} [Tbl P] {w : World} {t : Nat} {a : Addr} {v : Value} {i : TI} (ht : ty P t = some i) (hi : isAggD i.desc = false) (hc : hcell w.heap a = some v) : (loadVar t a).run P w = .ok v w := by
  have h2 : w.cell? a = some v := hc
  simp [loadVar, Sem.run_bind, ty.agg ht, Result.andThen, hi, Go.load, Sem.run, h2]
end Go.Vc
set_option linter.unusedVariables false
set_option linter.unusedSimpArgs false
namespace Go.Vc
/-- make([]T, 0, n). -/
def Sl.room (b n : Nat) : Sl := ⟨some ⟨b, 0, none⟩, 0, n, fun h => (by cases h), Nat.zero_le _⟩
section
variable {C : Cx} {ops : Array Oper} {l : List Oper} {L : Env} {ds : List Nat} {H : Heap} {Kk : Env → Heap → Prop} {o : Oper}
theorem Ef.makeRoom [Tbl C.P] {t n e sz bt bytes : Nat} {k k' : IntKind} {z z' : Value} {d : TypeDesc} {x y : Operand} {K : Value → Heap → Prop} (ho : o.op = .makeSlice t x y)
    (hx : L.ev x = some (.int k ((0 : Nat) : Int))) (hy : L.ev y = some (.int k' (n : Int))) (ht : ty C.P t = some ⟨.slice e, sz, bt, z⟩) (he : ty C.P e = some ⟨d, 1, bytes, z'⟩) (hz : oneCell z' = true) (hn : bytes * n ≤ 281474976710656) (hn2 : n ≤ 281474976710656)
    (hk : ∀ H', OwnR H' H.size e 1 (Sl.room H.size n) [] → Ext H H' → H'.size = H.size + 1 → K (Sl.room H.size n).val H') : Ef C o L H K :=
  Ef.of (by rw [ho]; rfl) fun act w ha hw => by
    subst hw
    have e1 := agr_of ha hx (by rw [ho]; simp [Op.operands])
    have e2 := agr_of ha hy (by rw [ho]; simp [Op.operands])
    obtain ⟨i, hi, hz1, hs1, hb1⟩ := ty.info he
    have hrun := run_make (P := C.P) w t e i z' (Tbl.ok.find ht).1 hi hz1 k k' 0 n (by omega) (by omega) (by rw [show i.bytes = bytes from hb1, ← Int.natCast_mul]; omega) (by omega)
    have hcells : madeCells z'.cells (n * i.size) = (List.replicate n z').toArray := by
      rw [oneCell_cells hz, hs1]
      apply Array.ext'
      apply List.ext_getElem
      · simp [madeCells]
      · intro j h1 h2; simp [madeCells, Nat.mod_one]
    have hown : OwnR (w.heap.push (.cells (List.replicate n z').toArray e)) w.heap.size e 1 (Sl.room w.heap.size n) [] := by
      refine ⟨by simp [Sl.room], .inr ⟨w.heap.size, (List.replicate n z').toArray, rfl, Nat.le_refl _, by rw [Array.getElem?_push, if_pos rfl], Nat.zero_le _, by simp only [maxLen, Sl.room]; omega, by simp [Sl.room], ?_⟩⟩
      simp [Sl.room]
    refine .inl ⟨(Sl.room w.heap.size n).val, { w with heap := w.heap.push (.cells (List.replicate n z').toArray e) }, ?_, ⟨rfl, rfl, rfl⟩, hk _ hown (Ext.push _ _) (by simp)⟩
    simp only [Int.toNat_natCast, hcells] at hrun
    simp only [execOp, ho, e1, e2, Sem.run_bind]
    rw [show ((0 : Nat) : Int) = 0 from rfl, hrun]
    rfl
theorem RegS.makeRoom [Tbl C.P] {t n e sz bt bytes dst : Nat} {k₁ k₂ : IntKind} {z z' : Value} {d : TypeDesc} {x y : Operand} (hn : bytes * n ≤ 281474976710656) (hn2 : n ≤ 281474976710656)
    (k : ∀ H', OwnR H' H.size e 1 (Sl.room H.size n) [] → Ext H H' → H'.size = H.size + 1 → RegS C ops l ((dst, (Sl.room H.size n).val) :: L) ds H' Kk)
    (ho : o.op = .makeSlice t x y := by rfl) (hx : L.ev x = some (.int k₁ ((0 : Nat) : Int)) := by rfl) (hy : L.ev y = some (.int k₂ (n : Int)) := by rfl) (ht : ty C.P t = some ⟨.slice e, sz, bt, z⟩ := by rfl) (he : ty C.P e = some ⟨d, 1, bytes, z'⟩ := by rfl) (hz : oneCell z' = true := by rfl)
    (hds : o.dst = some dst := by rfl) (hg : gd ops o L = some true := by rfl) (hd : Nat.blt dst C.N = true := by rfl) : RegS C ops (o :: l) L ds H Kk :=
  RegS.ef hg (by rw [hds]; exact hd) (Ef.makeRoom ho hx hy ht he hz hn hn2 fun H' a b c => by rw [hds]; exact k H' a b c)
end
/-- What is known tells what is asked. -/
theorem subs {E L : Env} (h : Sub E L := by repeat (first | exact trivial | refine ⟨rfl, ?_⟩)) : Sub E L := h
/-- All that was promised, asked once more. -/
theorem proms {C : Cx} [Tbl C.P] {ops : Array Oper} {H : Heap} {pend : List Rec} (h : Proms C ops H pend := by repeat (first | exact Proms.nil | refine Proms.cons prom ?_ | refine Proms.cons promS ?_)) : Proms C ops H pend := h
/-! ### More than one operation may be next -/
section
variable {C : Cx} {ops : Array Oper} {l : List Oper} {L : Env} {ds : List Nat} {H : Heap} {Kk : Env → Heap → Prop} {o : Oper} {B : Array Nat} {p alt : Plan} {pend : List Rec}
theorem RegE.call {i d : Nat} {keep : List Nat} {R : Value → Heap → Prop} {f : Operand} {xs : List Operand} {ts : Array TypeId} {g : FuncId} {first captured : List Value} {vs : List Value} (h : CallsH C.P g (first ++ (vs ++ captured)) H R)
    (hk : ∀ v H', R v H' → (Ext H H' ∨ Proms C ops H' (pfilter keep pend)) ∧ RegP C ops B p (pfilter keep pend) ((d, v) :: L) ds H' Kk) (a : RegE C ops B alt pend L ds H Kk)
    (ho : ops[i]? = some o := by rfl) (hds : o.dst = some d := by rfl) (hop : o.op = .call { callee := .value f, args := xs.toArray, argTypes := ts } := by rfl) (hf : L.ev f = some (.func (.func g) first.toArray captured.toArray) := by rfl) (hxs : evs L xs = some vs := by rfl)
    (hg : gd ops o L = some true := by rfl) (hd : Nat.blt d C.N = true := by rfl) : RegE C ops B (.e i keep p alt) pend L ds H Kk :=
  RegE.ef ho hg (by rw [hds]; exact hd) (calls_op hop hf hxs h (by rw [hds]; exact hk)) a
theorem RegE.buildSlice [Tbl C.P] {i t n e sz bt bytes dst : Nat} {keep : List Nat} {z z' : Value} {d : TypeDesc} {ps : List (Nat × Operand)} {vs : List Value}
    (k : ∀ H', OwnR H' H.size e 1 (Sl.fresh H.size n) vs → Ext H H' → H'.size = H.size + 1 → RegP C ops B p (pfilter keep pend) ((dst, (Sl.fresh H.size n).val) :: L) ds H' Kk) (a : RegE C ops B alt pend L ds H Kk)
    (hi : ops[i]? = some o := by rfl) (ho : o.op = .buildSlice t n ps.toArray := by rfl) (hp : pvs L 0 ps = some vs := by rfl) (ht : ty C.P t = some ⟨.slice e, sz, bt, z⟩ := by rfl) (he : ty C.P e = some ⟨d, 1, bytes, z'⟩ := by rfl) (hz : oneCell z' = true := by rfl) (hn : Nat.beq n vs.length = true := by rfl) (hn2 : Nat.ble n 1000 = true := by rfl) (h1 : allOne vs = true := by rfl)
    (hds : o.dst = some dst := by rfl) (hg : gd ops o L = some true := by rfl) (hd : Nat.blt dst C.N = true := by rfl) : RegE C ops B (.e i keep p alt) pend L ds H Kk :=
  RegE.ef hi hg (by rw [hds]; exact hd) (Ef.buildSlice ho hp ht he hz hn hn2 h1 fun H' a b c => by rw [hds]; exact ⟨.inl b, k H' a b c⟩) a
end
section
variable {H H' : Heap} {b : Nat} {e : TypeId} {vs : List Value}
theorem Blk.chg {S : Nat → Prop} (h : Blk H b e vs) (c : Chg S H H') (hs : ¬S b) : Blk H' b e vs := ⟨(c.get b h.lt hs).trans h.at_⟩
theorem Blk.keep {B : Nat} (h : Blk H b e vs) (k : Keep B H H') : Blk H' b e vs := ⟨k.cells h.at_⟩
theorem Blk.wr {j : Nat} (h : Blk H b e vs) (hj : j < vs.length) : Wr H ⟨b, j, none⟩ := blk_wr h.at_ (by simpa using hj)
theorem Blk.set {j : Nat} {v : Value} (h : Blk H b e vs) : Blk (hset H ⟨b, j, none⟩ v) b e (vs.set j v) := ⟨by rw [blk_set h.at_]; simp⟩
end
theorem OwnR.keep {B base : Nat} {A A' : Heap} {e : TypeId} {size : Nat} {s : Sl} {xs : List Value} (h : OwnR A base e size s xs) (k : Keep B A A') : OwnR A' base e size s xs := by
  refine ⟨h.1, h.2.imp id ?_⟩
  rintro ⟨g, cur, ha, hb, hh, r⟩
  exact ⟨g, cur, ha, hb, k.cells hh, r⟩
/-- A slice of slices of bytes. -/
structure BRows (H : Heap) (s : Sl) (ss : List Sl) (ls : List (List UInt8)) : Prop where
  row : RowF Sl.val Sl.nil H s ss
  len : ss.length = ls.length
  each : ∀ k, k < ls.length → Bytes H (ss.getD k Sl.nil) (ls.getD k [])
theorem BRows.ext {H H' : Heap} {s : Sl} {ss : List Sl} {ls : List (List UInt8)} (h : BRows H s ss ls) (e : Ext H H') : BRows H' s ss ls := ⟨h.row.ext e, h.len, fun k hk => (h.each k hk).ext e⟩
end Go.Vc
set_option linter.unusedVariables false
set_option linter.unusedSimpArgs false
namespace Go.Vc
section
variable {C : Cx} {ops : Array Oper} {l : List Oper} {L : Env} {ds : List Nat} {H : Heap} {Kk : Env → Heap → Prop} {o : Oper}
theorem RegS.boxA {t d : Nat} {x : Operand} {cs : List Value} (k : ∀ H', Ext H H' → H'.size = H.size + 1 → Blk H' H.size t cs → RegS C ops l ((d, .pointer (some ⟨H.size, 0, none⟩)) :: L) ds H' Kk)
    (ho : o.op = .box t x := by rfl) (hx : L.ev x = some (.agg cs.toArray) := by rfl) (hds : o.dst = some d := by rfl) (hg : gd ops o L = some true := by rfl) (hd : Nat.blt d C.N = true := by rfl) : RegS C ops (o :: l) L ds H Kk :=
  RegS.ef hg (by rw [hds]; exact hd) (Ef.box ho hx (by rw [hds]; exact k _ (Ext.push _ _) (by simp) ⟨by rw [Array.getElem?_push, if_pos rfl]; rfl⟩))
theorem RegS.allocA [Tbl C.P] {t d sz bt : Nat} {dd : TypeDesc} {z : Value} {cs : List Value} (k : ∀ H', Ext H H' → H'.size = H.size + 1 → Blk H' H.size t cs → RegS C ops l ((d, .pointer (some ⟨H.size, 0, none⟩)) :: L) ds H' Kk)
    (ho : o.op = .alloc t := by rfl) (ht : ty C.P t = some ⟨dd, sz, bt, z⟩ := by rfl) (hc : z = .agg cs.toArray := by rfl) (hds : o.dst = some d := by rfl) (hg : gd ops o L = some true := by rfl) (hd : Nat.blt d C.N = true := by rfl) : RegS C ops (o :: l) L ds H Kk :=
  RegS.ef hg (by rw [hds]; exact hd) (Ef.alloc ho ht (by rw [hds]; exact k _ (Ext.push _ _) (by simp) ⟨by rw [Array.getElem?_push, if_pos rfl, hc]; rfl⟩))
end
/-! ### Whole structs, written -/
def hsets (H : Heap) (b : Nat) : Nat → List Value → Heap
  | _, [] => H
  | o, v :: r => hsets (hset H ⟨b, o, none⟩ v) b (o + 1) r
theorem setCells_heap (b : Nat) : ∀ (vs : List Value) (o : Nat) (w : World), (w.setCells b o vs).heap = hsets w.heap b o vs
  | [], _, _ => rfl
  | v :: r, o, w => by rw [World.setCells, setCells_heap b r, hsets, setCell_heap]
theorem setCells_sim (b : Nat) : ∀ (vs : List Value) (o : Nat) (w : World), Sim w (w.setCells b o vs)
  | [], _, w => Sim.refl w
  | v :: r, o, w => by
    have := setCells_sim b r (o + 1) (w.setCell ⟨b, o, none⟩ v)
    exact ⟨this.os, this.tape, this.output⟩
theorem hsets_chg (b : Nat) : ∀ (vs : List Value) (o : Nat) (H : Heap), Chg (· = b) H (hsets H b o vs)
  | [], _, H => Chg.refl _ _
  | v :: r, o, H => (hset_chg H ⟨b, o, none⟩ v).trans (hsets_chg b r (o + 1) _)
/-- Cells from a place on, put one by one. -/
def puts : List Value → Nat → List Value → List Value
  | cs, _, [] => cs
  | cs, o, v :: r => puts (cs.set o v) (o + 1) r
theorem Blk.sets {b : Nat} {e : TypeId} : ∀ (us : List Value) (o : Nat) {H : Heap} {vs : List Value}, Blk H b e vs → Blk (hsets H b o us) b e (puts vs o us)
  | [], _, _, _, h => h
  | v :: r, o, H, vs, h => Blk.sets r (o + 1) (Blk.set (j := o) (v := v) h)
theorem oneCell_of {v : Value} (h : oneCell v = true) : v.oneCell' = true := by cases v <;> simp_all [oneCell, Value.oneCell']
theorem Ef.storeA {C : Cx} {L : Env} {H : Heap} {o : Oper} [Tbl C.P] {t n bt b j e : Nat} {x y : Operand} {d : TypeDesc} {z : Value} {us vs : List Value} {K : Value → Heap → Prop} (ho : o.op = .store t x y) (hx : L.ev x = some (.pointer (some ⟨b, j, none⟩))) (hy : L.ev y = some (.agg us.toArray))
    (ht : ty C.P t = some ⟨d, n, bt, z⟩) (h1 : allOne us = true) (hn : Nat.beq us.length n = true) (hb : Blk H b e vs) (hl : Nat.ble (j + us.length) vs.length = true) (hk : K undef (hsets H b j us)) : Ef C o L H K :=
  Ef.of (by rw [ho]; rfl) fun act w ha hw => by
    have e1 := agr_of ha hx (by rw [ho]; simp [Op.operands])
    have e2 := agr_of ha hy (by rw [ho]; simp [Op.operands])
    subst hw
    have hnn := Nat.eq_of_beq_eq_true hn
    have hll := Nat.le_of_ble_eq_true hl
    have hst := run_storeCells_cells (P := C.P) b j us 0 w (fun i hi => by
        rw [show w.cell? ⟨b, j + 0 + i, none⟩ = hcell w.heap ⟨b, j + 0 + i, none⟩ from rfl, blk_cell hb.at_]
        simp; omega) (fun i hi => blk_free hb.at_) (fun v hv => oneCell_of (allOne_spec h1 v hv))
    refine .inr ⟨w.setCells b j us, ?_, setCells_sim b us j w, by rw [setCells_heap]; exact hk⟩
    rw [Nat.add_zero] at hst
    have hsz : (us.toArray.size ≠ n) = False := by simp [hnn]
    simp only [execOp, ho, e1, e2, Instr.storeAt, Instr.sureAddr, storeVar, Sem.run_bind, Sem.run_pure, ty.sizeOf ht, Result.andThen, Value.cells, hsz, if_false, hst]
section
variable {C : Cx} {ops : Array Oper} {l : List Oper} {L : Env} {ds : List Nat} {H : Heap} {Kk : Env → Heap → Prop} {o : Oper} {B : Array Nat} {p : Plan} {pend : List Rec}
theorem RegS.storeA [Tbl C.P] {t n bt b j e : Nat} {x y : Operand} {d : TypeDesc} {z : Value} {us vs : List Value} (hb : Blk H b e vs) (k : RegS C ops l L ds (hsets H b j us) Kk)
    (ho : o.op = .store t x y := by rfl) (hx : L.ev x = some (.pointer (some ⟨b, j, none⟩)) := by rfl) (hy : L.ev y = some (.agg us.toArray) := by rfl) (ht : ty C.P t = some ⟨d, n, bt, z⟩ := by rfl) (h1 : allOne us = true := by rfl) (hn : Nat.beq us.length n = true := by rfl) (hl : Nat.ble (j + us.length) vs.length = true := by rfl) (hds : o.dst = none := by rfl) (hg : gd ops o L = some true := by rfl) : RegS C ops (o :: l) L ds H Kk :=
  RegS.ef hg (by rw [hds]; rfl) (Ef.storeA ho hx hy ht h1 hn hb hl (by rw [hds]; exact k))
theorem RegP.storeA [Tbl C.P] {i t n bt b j e : Nat} {keep : List Nat} {x y : Operand} {d : TypeDesc} {z : Value} {us vs : List Value} (hb : Blk H b e vs) (hp : Proms C ops (hsets H b j us) (pfilter keep pend)) (k : RegP C ops B p (pfilter keep pend) L ds (hsets H b j us) Kk)
    (hi : ops[i]? = some o := by rfl) (ho : o.op = .store t x y := by rfl) (hx : L.ev x = some (.pointer (some ⟨b, j, none⟩)) := by rfl) (hy : L.ev y = some (.agg us.toArray) := by rfl) (ht : ty C.P t = some ⟨d, n, bt, z⟩ := by rfl) (h1 : allOne us = true := by rfl) (hn : Nat.beq us.length n = true := by rfl) (hl : Nat.ble (j + us.length) vs.length = true := by rfl) (hds : o.dst = none := by rfl) (hg : gd ops o L = some true := by rfl) : RegP C ops B (.e i keep p .nil) pend L ds H Kk :=
  RegP.ef (Ef.storeA ho hx hy ht h1 hn hb hl (by rw [hds]; exact ⟨.inr hp, k⟩)) hi hg (by rw [hds]; rfl)
end
end Go.Vc
set_option linter.unusedVariables false
set_option linter.unusedSimpArgs false
set_option linter.unusedVariables false
set_option linter.unusedSimpArgs false
namespace Go.Vc
theorem Rd.neqS {C : Cx} {o : Oper} {L : Env} {H : Heap} {x y : Operand} {t t' : TypeId} {a b : List UInt8} (ho : o.op = .binOp .neq t x y t') (hx : L.ev x = some (S a)) (hy : L.ev y = some (S b)) : Rd C o L H (.bool (dec (a ≠ b))) :=
  Rd.of (by rw [ho]; rfl) fun act w ha ex => by
    have h1 := agr_of ha hx (by rw [ho]; simp [Op.operands])
    have h2 := agr_of ha hy (by rw [ho]; simp [Op.operands])
    simp only [S] at h1 h2
    have e : (!(a == b)) = dec (a ≠ b) := by by_cases h : a = b <;> simp [h, dec_pos, dec_neg]
    simp only [execOp, ho, h1, h2, Sem.run_bind, Result.andThen]
    simp only [eqGuard, binOp, Op.stringOp, Sem.run_bind, Result.andThen, Sem.run, bytes_toList, e]
    rfl
/-- An operation that would turn the heap, passed over. -/
theorem RegP.skE {C : Cx} {ops : Array Oper} {L : Env} {ds : List Nat} {H : Heap} {K : Env → Heap → Prop} {o : Oper} {B : Array Nat} {p : Plan} {pend : List Rec} {i d : Nat} {keep : List Nat} (k : RegP C ops B p (pfilter keep pend) ((d, undef) :: L) ds H K)
    (ho : ops[i]? = some o := by rfl) (hds : o.dst = some d := by rfl) (hg : gd ops o L = some false := by rfl) (hd : Nat.blt d C.N = true := by rfl) : RegP C ops B (.e i keep p .nil) pend L ds H K :=
  RegP.e (RegE.skip ho hg (by rw [hds]; exact hd) (by rw [hds]; exact k) RegE.nil)
end Go.Vc
set_option linter.unusedVariables false
set_option linter.unusedSimpArgs false
namespace Go.Vc
structure Mat (H : Heap) (base : Nat) (e : TypeId) (t : Sl) (ss : List Sl) (m : List (List UInt8)) : Prop where
  arr : OwnF Sl.val H base e t ss
  len : ss.length = m.length
  each : ∀ k, k < m.length → Mine H base (ss.getD k Sl.nil) (m.getD k [])
  diff : ∀ i j, i < m.length → j < m.length → i ≠ j → ∀ b, (ss.getD i Sl.nil).blk = some b → (ss.getD j Sl.nil).blk ≠ some b
  apart : ∀ k, k < m.length → ∀ b, (ss.getD k Sl.nil).blk = some b → t.blk ≠ some b
section
variable {H H' : Heap} {base : Nat} {e : TypeId} {t : Sl} {ss : List Sl} {m : List (List UInt8)}
theorem Mat.nil (H : Heap) (base : Nat) (e : TypeId) : Mat H base e Sl.nil [] [] := ⟨OwnR.nil _ _ _ _, rfl, fun k hk => absurd hk (by simp), fun i j hi => absurd hi (by simp), fun k hk => absurd hk (by simp)⟩
theorem Mat.brows (h : Mat H base e t ss m) : BRows H t ss m := ⟨h.arr.rowF, h.len, fun k hk => (h.each k hk).bytes⟩
theorem Mat.bytes (h : Mat H base e t ss m) {k : Nat} (hk : k < m.length) : Bytes H (ss.getD k Sl.nil) (m.getD k []) := (h.each k hk).bytes
theorem Mat.row (h : Mat H base e t ss m) : RowF Sl.val Sl.nil H t ss := h.arr.rowF
theorem Mat.low {base' : Nat} (h : Mat H base e t ss m) (hb : base' ≤ base) : Mat H base' e t ss m := ⟨h.arr.low hb, h.len, fun k hk => (h.each k hk).low hb, h.diff, h.apart⟩
theorem Mat.chg {S : Nat → Prop} (h : Mat H base e t ss m) (c : Chg S H H') (hs : ∀ b, base ≤ b → b < H.size → ¬ S b) : Mat H' base e t ss m :=
  ⟨h.arr.chg c fun b hb => hs b (h.arr.blk_ge hb).1 (h.arr.blk_ge hb).2, h.len, fun k hk => (h.each k hk).chg c fun b hb => hs b ((h.each k hk).blk b hb).1 ((h.each k hk).blk b hb).2, h.diff, h.apart⟩
theorem Mat.ext (h : Mat H base e t ss m) (x : Ext H H') : Mat H' base e t ss m := h.chg (x.chg fun _ => False) fun _ _ _ k => k
/-- Blocks that the rows and their row are not in. -/
theorem Mat.chg' {S : Nat → Prop} (h : Mat H base e t ss m) (c : Chg S H H') (ht : ∀ b, t.blk = some b → ¬ S b) (hs : ∀ k b, k < m.length → (ss.getD k Sl.nil).blk = some b → ¬ S b) : Mat H' base e t ss m :=
  ⟨h.arr.chg c ht, h.len, fun k hk => (h.each k hk).chg c fun b hb => hs k b hk hb, h.diff, h.apart⟩
theorem getD_setL {β : Type} {l : List β} {i j : Nat} {v d : β} (hi : i < l.length) : (l.set i v).getD j d = if j = i then v else l.getD j d := by
  simp only [List.getD_eq_getElem?_getD, List.getElem?_set]
  by_cases h : i = j
  · subst h; simp [hi]
  · have h' : ¬ j = i := fun k => h k.symm
    simp [h, h']
/-- A byte is written. -/
theorem Mat.put (h : Mat H base e t ss m) {i j : Nat} (hi : i < m.length) (hj : j < (m.getD i []).length) (v : UInt8) :
    Mat (hset H ((ss.getD i Sl.nil).cell j) (B8 v)) base e t ss (m.set i ((m.getD i []).set j v)) ∧ Chg (fun b => base ≤ b) H (hset H ((ss.getD i Sl.nil).cell j) (B8 v)) := by
  obtain ⟨h1, h2⟩ := (h.each i hi).set hj v
  refine ⟨⟨h.arr.chg h2 fun b hb hb' => h.apart i hi b hb' hb, by rw [List.length_set]; exact h.len, fun k hk => ?_, ?_, ?_⟩, h2.mono fun b _ hb => ((h.each i hi).blk b hb).1⟩
  · rw [List.length_set] at hk
    rw [getD_setL hi]
    by_cases e' : k = i
    · subst e'; rw [if_pos rfl]; exact h1
    · rw [if_neg e']
      exact (h.each k hk).chg h2 fun b hb hb' => h.diff i k hi hk (fun x => e' x.symm) b hb' hb
  · intro a b ha hb; rw [List.length_set] at ha hb; exact h.diff a b ha hb
  · intro k hk; rw [List.length_set] at hk; exact h.apart k hk
theorem Mat.wr (h : Mat H base e t ss m) {i j : Nat} (hi : i < m.length) (hj : j < (m.getD i []).length) : Wr H ((ss.getD i Sl.nil).cell j) := (h.each i hi).wr hj
/-- A row more, appended. -/
theorem Mat.app {t' s : Sl} {l : List UInt8} {S : Nat → Prop} (h : Mat H base e t ss m) (hs : Mine H base s l) (hsep : ∀ k b, k < m.length → (ss.getD k Sl.nil).blk = some b → s.blk ≠ some b) (hst : ∀ b, s.blk = some b → t.blk ≠ some b)
    (ho : OwnF Sl.val H' base e t' (ss ++ [s])) (c : Chg (fun b => t.blk = some b) H H') (hb : t'.blk = t.blk ∨ ∃ b, t'.blk = some b ∧ H.size ≤ b) : Mat H' base e t' (ss ++ [s]) (m ++ [l]) := by
  have hg : ∀ k, k ≤ m.length → (ss ++ [s]).getD k Sl.nil = if k < m.length then ss.getD k Sl.nil else s := fun k hk => by
    have := h.len
    by_cases hlt : k < m.length
    · rw [if_pos hlt]; simp [List.getD_eq_getElem?_getD, List.getElem?_append, show k < ss.length from by omega]
    · rw [if_neg hlt]; simp [List.getD_eq_getElem?_getD, List.getElem?_append, show ¬ k < ss.length from by omega, show k - ss.length = 0 from by omega]
  have hm : ∀ k, k ≤ m.length → (m ++ [l]).getD k [] = if k < m.length then m.getD k [] else l := fun k hk => by
    by_cases hlt : k < m.length
    · rw [if_pos hlt]; simp [List.getD_eq_getElem?_getD, List.getElem?_append, hlt]
    · rw [if_neg hlt]; simp [List.getD_eq_getElem?_getD, List.getElem?_append, hlt, show k - m.length = 0 from by omega]
  have old : ∀ k, k < m.length → ∀ b, (ss.getD k Sl.nil).blk = some b → t'.blk ≠ some b := fun k hk b hkb ht => by
    rcases hb with hb | ⟨b', hb, hz⟩
    · exact h.apart k hk b hkb (hb ▸ ht)
    · have := ((h.each k hk).blk b hkb).2
      rw [hb] at ht
      simp only [Option.some.injEq] at ht
      omega
  refine ⟨ho, by simp [h.len], fun k hk => ?_, fun i j hi hj hne b h1 => ?_, fun k hk b h1 => ?_⟩
  · simp only [List.length_append, List.length_singleton] at hk
    rw [hg k (by omega), hm k (by omega)]
    by_cases hlt : k < m.length
    · rw [if_pos hlt, if_pos hlt]; exact (h.each k hlt).chg c fun b hb' hb'' => h.apart k hlt b hb' hb''
    · rw [if_neg hlt, if_neg hlt]; exact hs.chg c fun b hb' hb'' => hst b hb' hb''
  · simp only [List.length_append, List.length_singleton] at hi hj
    rw [hg i (by omega)] at h1
    rw [hg j (by omega)]
    by_cases hil : i < m.length <;> by_cases hjl : j < m.length
    · rw [if_pos hil] at h1; rw [if_pos hjl]; exact h.diff i j hil hjl hne b h1
    · rw [if_pos hil] at h1; rw [if_neg hjl]; exact hsep i b hil h1
    · rw [if_neg hil] at h1; rw [if_pos hjl]; exact fun h2 => hsep j b hjl h2 h1
    · omega
  · simp only [List.length_append, List.length_singleton] at hk
    rw [hg k (by omega)] at h1
    by_cases hlt : k < m.length
    · rw [if_pos hlt] at h1; exact old k hlt b h1
    · rw [if_neg hlt] at h1
      intro ht
      rcases hb with hb | ⟨b', hb, hz⟩
      · exact hst b h1 (hb ▸ ht)
      · have := (hs.blk b h1).2
        rw [hb] at ht
        simp only [Option.some.injEq] at ht
        omega
/-- Two rows change places. -/
theorem Mat.swap (h : Mat H base e t ss m) {i j : Nat} (hi : i < m.length) (hj : j < m.length) :
    Mat (hset (hset H (t.cell i) (ss.getD j Sl.nil).val) (t.cell j) (ss.getD i Sl.nil).val) base e t ((ss.set i (ss.getD j Sl.nil)).set j (ss.getD i Sl.nil)) ((m.set i (m.getD j [])).set j (m.getD i [])) ∧
    Chg (fun b => base ≤ b) H (hset (hset H (t.cell i) (ss.getD j Sl.nil).val) (t.cell j) (ss.getD i Sl.nil).val) := by
  have hl := h.len
  obtain ⟨o1, c1⟩ := OwnR.set h.arr (j := i) (by simp; omega) (ss.getD j Sl.nil).val
  have o1' : OwnF Sl.val (hset H (t.cell i) (ss.getD j Sl.nil).val) base e t (ss.set i (ss.getD j Sl.nil)) := by rw [OwnF, List.map_set]; exact o1
  obtain ⟨o2, c2⟩ := OwnR.set o1' (j := j) (by simp; omega) (ss.getD i Sl.nil).val
  have o2' : OwnF Sl.val (hset (hset H (t.cell i) (ss.getD j Sl.nil).val) (t.cell j) (ss.getD i Sl.nil).val) base e t ((ss.set i (ss.getD j Sl.nil)).set j (ss.getD i Sl.nil)) := by rw [OwnF, List.map_set]; exact o2
  have c := c1.trans c2
  let p : Nat → Nat := fun k => if k = j then i else if k = i then j else k
  have hp : ∀ k, k < m.length → p k < m.length := fun k hk => by simp only [p]; split <;> (try split) <;> omega
  have hinj : ∀ a b, a ≠ b → p a ≠ p b := fun a b hne => by simp only [p]; split <;> split <;> (try split) <;> (try split) <;> omega
  have hss : ∀ k, ((ss.set i (ss.getD j Sl.nil)).set j (ss.getD i Sl.nil)).getD k Sl.nil = ss.getD (p k) Sl.nil := fun k => by
    rw [getD_setL (by simp; omega), getD_setL (by omega)]
    simp only [p]
    split <;> (try split) <;> simp_all
  have hmm : ∀ k, ((m.set i (m.getD j [])).set j (m.getD i [])).getD k [] = m.getD (p k) [] := fun k => by
    rw [getD_setL (by simp; omega), getD_setL (by omega)]
    simp only [p]
    split <;> (try split) <;> simp_all
  refine ⟨⟨o2', by simpa using h.len, fun k hk => ?_, fun a b ha hb hne x hx => ?_, fun k hk x hx => ?_⟩, c.mono fun b _ hb => (h.arr.blk_ge hb).1⟩
  · simp only [List.length_set] at hk
    rw [hss, hmm]
    exact (h.each _ (hp k hk)).chg c fun b hb hb' => h.apart _ (hp k hk) b hb hb'
  · simp only [List.length_set] at ha hb
    rw [hss] at hx ⊢
    exact h.diff _ _ (hp a ha) (hp b hb) (hinj a b hne) x hx
  · simp only [List.length_set] at hk
    rw [hss] at hx
    exact h.apart _ (hp k hk) x hx
end
end Go.Vc
set_option linter.unusedVariables false
set_option linter.unusedSimpArgs false
namespace Go.Vc
theorem RowF.chg {β : Type} {f : β → Value} {d : β} {S : Nat → Prop} {H H' : Heap} {s : Sl} {l : List β} (h : RowF f d H s l) (c : Chg S H H') (hs : ∀ b, s.blk = some b → b < H.size ∧ ¬ S b) : RowF f d H' s l := by
  refine ⟨h.len, fun j hj => ?_⟩
  obtain ⟨b, hb⟩ := Sl.blk_some (s := s) (by rw [h.len]; omega)
  obtain ⟨h1, h2⟩ := hs b hb
  exact (hcell_block (by rw [Sl.cell_blk hb]; exact c.get b h1 h2)).trans (h.cell j hj)
end Go.Vc
set_option linter.unusedVariables false
set_option linter.unusedSimpArgs false
