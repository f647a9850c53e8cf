/-
  The calculus, part 16: rows whose elements have several cells each.
-/
import Derived.Test.YtaikdcnifijcoaaVcMsg
set_option linter.unusedVariables false
set_option linter.unusedSimpArgs false
namespace Go.Vc
/-- The slice reads as these, each of n cells. -/
structure CRow {β : Type} (n : Nat) (f : β → List Value) (d : β) (H : Heap) (s : Sl) (l : List β) : Prop where
  len : s.len = l.length
  cell : ∀ j, j < l.length → ∀ i v, (f (l.getD j d))[i]? = some v → hcell H (s.cell (j * n + i)) = some v
section
variable {β : Type} {n : Nat} {f : β → List Value} {d : β} {H H' : Heap} {s : Sl} {l : List β}
theorem CRow.ext (h : CRow n f d H s l) (e : Ext H H') : CRow n f d H' s l := ⟨h.len, fun j hj i v hv => e.cell (h.cell j hj i v hv)⟩
theorem CRow.nil (H : Heap) : CRow n f d H Sl.nil [] := ⟨rfl, fun j hj => absurd hj (by simp)⟩
theorem CRow.lt (h : CRow n f d H s l) (hf : ∀ x, (f x).length = n) (hn : 0 < n) : 0 < s.len → ∀ b, s.blk = some b → b < H.size := fun hp b hb => by
  have hl : 0 < l.length := by have := h.len; omega
  have hv : (f (l.getD 0 d))[0]? = some ((f (l.getD 0 d))[0]'(by rw [hf]; exact hn)) := List.getElem?_eq_getElem _
  have := hcell_lt (h.cell 0 hl 0 _ hv)
  rwa [Sl.cell_blk hb] at this
theorem CRow.chgN {S : Nat → Prop} (h : CRow n f d H s l) (hf : ∀ x, (f x).length = n) (hn : 0 < n) (c : Chg S H H') (hs : 0 < s.len → ∀ b, s.blk = some b → ¬ S b) : CRow n f d H' s l := by
  by_cases hp : 0 < s.len
  · obtain ⟨b, hb⟩ := Sl.blk_some hp
    have hlt := h.lt hf hn hp b hb
    have hS := hs hp b hb
    exact ⟨h.len, fun j hj i v hv => (hcell_block (by rw [Sl.cell_blk hb]; exact c.get b hlt hS)).trans (h.cell j hj i v hv)⟩
  · exact ⟨h.len, fun j hj => absurd hj (by have := h.len; omega)⟩
theorem flatN_length (hf : ∀ x, (f x).length = n) : ∀ l : List β, (l.flatMap f).length = l.length * n
  | [] => by simp
  | a :: r => by rw [List.flatMap_cons, List.length_append, flatN_length hf r, hf, List.length_cons, Nat.add_mul]; omega
theorem flatN_get (hf : ∀ x, (f x).length = n) : ∀ (l : List β) (j : Nat), j < l.length → ∀ i v, (f (l.getD j d))[i]? = some v → (l.flatMap f)[j * n + i]? = some v
  | [], j, h, _, _, _ => absurd h (by simp)
  | a :: r, 0, _, i, v, hv => by
    have hi := (List.getElem?_eq_some_iff.1 hv).1
    simp only [List.getD_cons_zero] at hv hi
    rw [List.flatMap_cons, Nat.zero_mul, Nat.zero_add, List.getElem?_append_left hi, hv]
  | a :: r, j + 1, h, i, v, hv => by
    have ih := flatN_get hf r j (by simpa using h) i v (by simpa using hv)
    rw [List.flatMap_cons, Nat.add_mul, Nat.one_mul, show j * n + n + i = (f a).length + (j * n + i) by rw [hf]; omega, List.getElem?_append_right (by omega), Nat.add_sub_cancel_left]
    exact ih
theorem OwnR.crow {base : Nat} {e : TypeId} (h : OwnR H base e n s (l.flatMap f)) (hf : ∀ x, (f x).length = n) (hn : 0 < n) : CRow n f d H s l := by
  have h1 := h.1
  rw [flatN_length hf] at h1
  exact ⟨(Nat.eq_of_mul_eq_mul_right hn h1).symm, fun j hj i v hv => h.cells (flatN_get hf l j hj i v hv)⟩
theorem CRow.get (h : CRow n f d H s l) (hf : ∀ x, (f x).length = n) (hn : 0 < n) : ∀ j u, (l.flatMap f)[j]? = some u → hcell H (s.cell j) = some u := by
  intro j u hj
  have hlt := (List.getElem?_eq_some_iff.1 hj).1
  rw [flatN_length hf] at hlt
  have hq : j / n < l.length := Nat.div_lt_of_lt_mul (by rw [Nat.mul_comm]; exact hlt)
  have hr : j % n < n := Nat.mod_lt _ hn
  have e : j = j / n * n + j % n := by rw [Nat.mul_comm]; exact (Nat.div_add_mod j n).symm
  have hv : (f (l.getD (j / n) d))[j % n]? = some ((f (l.getD (j / n) d))[j % n]'(by rw [hf]; exact hr)) := List.getElem?_eq_getElem _
  have g := flatN_get (d := d) hf l (j / n) hq _ _ hv
  rw [← e, hj] at g
  have c := h.cell (j / n) hq _ _ hv
  rw [← e] at c
  rw [c]; exact g.symm
theorem Blk.one {b : Nat} {e : TypeId} {cs : List Value} (h : Blk H b e cs) : ∀ j u, cs[j]? = some u → hcell H ((Sl.fresh b 1).cell j) = some u := by
  intro j u hj
  rw [Sl.cell_eq]
  show hcell H ((⟨b, 0, none⟩ : Addr).add j) = some u
  rw [add_plain, Nat.zero_add, blk_cell h.at_]
  simpa using hj
end
section
variable {C : Cx} {o : Oper} {L : Env} {H : Heap}
theorem Rd.loadRow [Tbl C.P] {β : Type} {n : Nat} {f : β → List Value} {d : β} {x : Operand} {t sz bt j : Nat} {dd : TypeDesc} {z : Value} {s : Sl} {l : List β} (ho : o.op = .load t x) (hx : L.ev x = some (.pointer (some (s.cell (j * n)))))
    (ht : ty C.P t = some ⟨dd, sz, bt, z⟩) (hd : isAggD dd = true) (hb : CRow n f d H s l) (hj : j < l.length) (hn : Nat.beq sz (f (l.getD j d)).length = true) : Rd C o L H (.agg (f (l.getD j d)).toArray) :=
  Rd.loadA ho hx ht hd hn fun i hi => by
    have hsz := Nat.eq_of_beq_eq_true hn
    have hv : (f (l.getD j d))[i]? = some ((f (l.getD j d))[i]'(by omega)) := List.getElem?_eq_getElem _
    refine ⟨_, hv, ?_⟩
    rw [Sl.cell_add]
    exact hb.cell j hj i _ hv
end
section
variable {C : Cx} {ops : Array Oper} {L : Env} {ds : List Nat} {H : Heap} {Kk : Env → Heap → Prop} {o : Oper} {B : Array Nat} {p alt : Plan} {pend : List Rec}
theorem RegE.makeSlice [Tbl C.P] {i t n e sz bt bytes dst : Nat} {keep : List Nat} {k₁ k₂ : IntKind} {z z' : Value} {d : TypeDesc} {x y : Operand} (hn : bytes * n ≤ 281474976710656) (hn2 : n ≤ 281474976710656)
    (k : ∀ H', OwnR H' H.size e 1 (Sl.fresh H.size n) (List.replicate n z') → Ext H H' → H'.size = H.size + 1 → RegP C ops B p (pfilter keep pend) ((dst, (Sl.fresh H.size n).val) :: L) ds H' Kk) (a : RegE C ops B alt pend L ds H Kk)
    (hi : ops[i]? = some o := by rfl) (ho : o.op = .makeSlice t x y := by rfl) (hx : L.ev x = some (.int k₁ (n : Int)) := by rfl) (hy : L.ev y = some (.int k₂ (n : Int)) := by rfl) (ht : ty C.P t = some ⟨.slice e, sz, bt, z⟩ := by rfl) (he : ty C.P e = some ⟨d, 1, bytes, z'⟩ := by rfl) (hz : oneCell z' = true := by rfl)
    (hds : o.dst = some dst := by rfl) (hg : gd ops o L = some true := by rfl) (hd : Nat.blt dst C.N = true := by rfl) : RegE C ops B (.e i keep p alt) pend L ds H Kk :=
  RegE.ef hi hg (by rw [hds]; exact hd) (Ef.makeSlice ho hx hy ht he hz hn hn2 fun H' a b c => by rw [hds]; exact ⟨.inl b, k H' a b c⟩) a
theorem RegE.store [Tbl C.P] {i t bt : Nat} {keep : List Nat} {x y : Operand} {a : Addr} {d : TypeDesc} {z v : Value} (hw : Wr H a) (hp : Proms C ops (hset H a v) (pfilter keep pend)) (k : RegP C ops B p (pfilter keep pend) L ds (hset H a v) Kk) (al : RegE C ops B alt pend L ds H Kk)
    (hi : ops[i]? = some o := by rfl) (ho : o.op = .store t x y := by rfl) (hx : L.ev x = some (.pointer (some a)) := by rfl) (hy : L.ev y = some v := by rfl) (ht : ty C.P t = some ⟨d, 1, bt, z⟩ := by rfl) (h1 : oneCell v = true := by rfl) (hds : o.dst = none := by rfl) (hg : gd ops o L = some true := by rfl) : RegE C ops B (.e i keep p alt) pend L ds H Kk :=
  RegE.ef hi hg (by rw [hds]; rfl) (hw.cell.elim fun u hc => Ef.store ho hx hy ht h1 hc hw.free (by rw [hds]; exact ⟨.inr hp, k⟩)) al
theorem RegP.makeSlice [Tbl C.P] {i t n e sz bt bytes dst : Nat} {keep : List Nat} {k₁ k₂ : IntKind} {z z' : Value} {d : TypeDesc} {x y : Operand} (hn : bytes * n ≤ 281474976710656) (hn2 : n ≤ 281474976710656)
    (k : ∀ H', OwnR H' H.size e 1 (Sl.fresh H.size n) (List.replicate n z') → Ext H H' → H'.size = H.size + 1 → RegP C ops B p (pfilter keep pend) ((dst, (Sl.fresh H.size n).val) :: L) ds H' Kk)
    (hi : ops[i]? = some o := by rfl) (ho : o.op = .makeSlice t x y := by rfl) (hx : L.ev x = some (.int k₁ (n : Int)) := by rfl) (hy : L.ev y = some (.int k₂ (n : Int)) := by rfl) (ht : ty C.P t = some ⟨.slice e, sz, bt, z⟩ := by rfl) (he : ty C.P e = some ⟨d, 1, bytes, z'⟩ := by rfl) (hz : oneCell z' = true := by rfl)
    (hds : o.dst = some dst := by rfl) (hg : gd ops o L = some true := by rfl) (hd : Nat.blt dst C.N = true := by rfl) : RegP C ops B (.e i keep p .nil) pend L ds H Kk :=
  RegP.e (RegE.makeSlice hn hn2 k RegE.nil hi ho hx hy ht he hz hds hg hd)
end
end Go.Vc
