/-
  The calculus, part 17: who may write where.
-/
import Derived.Test.YtaikdcnifijcoaaGreatQ06
import Derived.Test.YtaikdcnifijcoaaGreatQ10
set_option linter.unusedVariables false
set_option linter.unusedSimpArgs false
namespace Go.Vc
/-- The slice reads as these, each of n cells. -/
structure CRow {β : Type} (n : Nat) (f : β → List Value) (d : β) (H : Heap) (s : Sl) (l : List β) : Prop where
  len : s.len = l.length
  cell : ∀ j, j < l.length → ∀ i v, (f (l.getD j d))[i]? = some v → hcell H (s.cell (j * n + i)) = some v
section
variable {β : Type} {n : Nat} {f : β → List Value} {d : β} {H H' : Heap} {s : Sl} {l : List β}
theorem CRow.ext (h : CRow n f d H s l) (e : Ext H H') : CRow n f d H' s l := ⟨h.len, fun j hj i v hv => e.cell (h.cell j hj i v hv)⟩
theorem CRow.nil (H : Heap) : CRow n f d H Sl.nil [] := ⟨rfl, fun j hj => absurd hj (by simp)⟩
theorem CRow.lt (h : CRow n f d H s l) (hf : ∀ x, (f x).length = n) (hn : 0 < n) : 0 < s.len → ∀ b, s.blk = some b → b < H.size := fun hp b hb => by
  have hl : 0 < l.length := by have := h.len; omega
  have hv : (f (l.getD 0 d))[0]? = some ((f (l.getD 0 d))[0]'(by rw [hf]; exact hn)) := List.getElem?_eq_getElem _
  have := hcell_lt (h.cell 0 hl 0 _ hv)
  rwa [Sl.cell_blk hb] at this
theorem CRow.chgN {S : Nat → Prop} (h : CRow n f d H s l) (hf : ∀ x, (f x).length = n) (hn : 0 < n) (c : Chg S H H') (hs : 0 < s.len → ∀ b, s.blk = some b → ¬ S b) : CRow n f d H' s l := by
  by_cases hp : 0 < s.len
  · obtain ⟨b, hb⟩ := Sl.blk_some hp
    have hlt := h.lt hf hn hp b hb
    have hS := hs hp b hb
    exact ⟨h.len, fun j hj i v hv => (hcell_block (by rw [Sl.cell_blk hb]; exact c.get b hlt hS)).trans (h.cell j hj i v hv)⟩
  · exact ⟨h.len, fun j hj => absurd hj (by have := h.len; omega)⟩
theorem flatN_length (hf : ∀ x, (f x).length = n) : ∀ l : List β, (l.flatMap f).length = l.length * n
  | [] => by simp
  | a :: r => by rw [List.flatMap_cons, List.length_append, flatN_length hf r, hf, List.length_cons, Nat.add_mul]; omega
theorem flatN_get (hf : ∀ x, (f x).length = n) : ∀ (l : List β) (j : Nat), j < l.length → ∀ i v, (f (l.getD j d))[i]? = some v → (l.flatMap f)[j * n + i]? = some v
  | [], j, h, _, _, _ => absurd h (by simp)
  | a :: r, 0, _, i, v, hv => by
    have hi := (List.getElem?_eq_some_iff.1 hv).1
    simp only [List.getD_cons_zero] at hv hi
    rw [List.flatMap_cons, Nat.zero_mul, Nat.zero_add, List.getElem?_append_left hi, hv]
  | a :: r, j + 1, h, i, v, hv => by
    have ih := flatN_get hf r j (by simpa using h) i v (by simpa using hv)
    rw [List.flatMap_cons, Nat.add_mul, Nat.one_mul, show j * n + n + i = (f a).length + (j * n + i) by rw [hf]; omega, List.getElem?_append_right (by omega), Nat.add_sub_cancel_left]
    exact ih
theorem OwnR.crow {base : Nat} {e : TypeId} (h : OwnR H base e n s (l.flatMap f)) (hf : ∀ x, (f x).length = n) (hn : 0 < n) : CRow n f d H s l := by
  have h1 := h.1
  rw [flatN_length hf] at h1
  exact ⟨(Nat.eq_of_mul_eq_mul_right hn h1).symm, fun j hj i v hv => h.cells (flatN_get hf l j hj i v hv)⟩
theorem Blk.one {b : Nat} {e : TypeId} {cs : List Value} (h : Blk H b e cs) : ∀ j u, cs[j]? = some u → hcell H ((Sl.fresh b 1).cell j) = some u := by
  intro j u hj
  rw [Sl.cell_eq]
  show hcell H ((⟨b, 0, none⟩ : Addr).add j) = some u
  rw [add_plain, Nat.zero_add, blk_cell h.at_]
  simpa using hj
end
section
variable {C : Cx} {o : Oper} {L : Env} {H : Heap}
theorem Rd.loadRow [Tbl C.P] {β : Type} {n : Nat} {f : β → List Value} {d : β} {x : Operand} {t sz bt j : Nat} {dd : TypeDesc} {z : Value} {s : Sl} {l : List β} (ho : o.op = .load t x) (hx : L.ev x = some (.pointer (some (s.cell (j * n)))))
    (ht : ty C.P t = some ⟨dd, sz, bt, z⟩) (hd : isAggD dd = true) (hb : CRow n f d H s l) (hj : j < l.length) (hn : Nat.beq sz (f (l.getD j d)).length = true) : Rd C o L H (.agg (f (l.getD j d)).toArray) :=
  Rd.loadA ho hx ht hd hn fun i hi => by
    have hsz := Nat.eq_of_beq_eq_true hn
    have hv : (f (l.getD j d))[i]? = some ((f (l.getD j d))[i]'(by omega)) := List.getElem?_eq_getElem _
    refine ⟨_, hv, ?_⟩
    rw [Sl.cell_add]
    exact hb.cell j hj i _ hv
end
section
variable {C : Cx} {ops : Array Oper} {L : Env} {ds : List Nat} {H : Heap} {Kk : Env → Heap → Prop} {o : Oper} {B : Array Nat} {p alt : Plan} {pend : List Rec}
theorem RegE.makeSlice [Tbl C.P] {i t n e sz bt bytes dst : Nat} {keep : List Nat} {k₁ k₂ : IntKind} {z z' : Value} {d : TypeDesc} {x y : Operand} (hn : bytes * n ≤ 281474976710656) (hn2 : n ≤ 281474976710656)
    (k : ∀ H', OwnR H' H.size e 1 (Sl.fresh H.size n) (List.replicate n z') → Ext H H' → H'.size = H.size + 1 → RegP C ops B p (pfilter keep pend) ((dst, (Sl.fresh H.size n).val) :: L) ds H' Kk) (a : RegE C ops B alt pend L ds H Kk)
    (hi : ops[i]? = some o := by rfl) (ho : o.op = .makeSlice t x y := by rfl) (hx : L.ev x = some (.int k₁ (n : Int)) := by rfl) (hy : L.ev y = some (.int k₂ (n : Int)) := by rfl) (ht : ty C.P t = some ⟨.slice e, sz, bt, z⟩ := by rfl) (he : ty C.P e = some ⟨d, 1, bytes, z'⟩ := by rfl) (hz : oneCell z' = true := by rfl)
    (hds : o.dst = some dst := by rfl) (hg : gd ops o L = some true := by rfl) (hd : Nat.blt dst C.N = true := by rfl) : RegE C ops B (.e i keep p alt) pend L ds H Kk :=
  RegE.ef hi hg (by rw [hds]; exact hd) (Ef.makeSlice ho hx hy ht he hz hn hn2 fun H' a b c => by rw [hds]; exact ⟨.inl b, k H' a b c⟩) a
theorem RegP.makeSlice [Tbl C.P] {i t n e sz bt bytes dst : Nat} {keep : List Nat} {k₁ k₂ : IntKind} {z z' : Value} {d : TypeDesc} {x y : Operand} (hn : bytes * n ≤ 281474976710656) (hn2 : n ≤ 281474976710656)
    (k : ∀ H', OwnR H' H.size e 1 (Sl.fresh H.size n) (List.replicate n z') → Ext H H' → H'.size = H.size + 1 → RegP C ops B p (pfilter keep pend) ((dst, (Sl.fresh H.size n).val) :: L) ds H' Kk)
    (hi : ops[i]? = some o := by rfl) (ho : o.op = .makeSlice t x y := by rfl) (hx : L.ev x = some (.int k₁ (n : Int)) := by rfl) (hy : L.ev y = some (.int k₂ (n : Int)) := by rfl) (ht : ty C.P t = some ⟨.slice e, sz, bt, z⟩ := by rfl) (he : ty C.P e = some ⟨d, 1, bytes, z'⟩ := by rfl) (hz : oneCell z' = true := by rfl)
    (hds : o.dst = some dst := by rfl) (hg : gd ops o L = some true := by rfl) (hd : Nat.blt dst C.N = true := by rfl) : RegP C ops B (.e i keep p .nil) pend L ds H Kk :=
  RegP.e (RegE.makeSlice hn hn2 k RegE.nil hi ho hx hy ht he hz hds hg hd)
end
end Go.Vc
set_option linter.unusedVariables false
set_option linter.unusedSimpArgs false
namespace Go.Vc
/-- A number for each block: whose it is; 0: nobody writes there any more. -/
abbrev Ow := Nat → Nat
structure WfO (H : Heap) (O : Ow) : Prop where
  new : ∀ x, H.size ≤ x → O x = 0
/-- Only blocks of these owners change; new ones may be given. -/
structure Step (S : Nat → Prop) (H : Heap) (O : Ow) (H' : Heap) (O' : Ow) : Prop where
  chg : Chg (fun x => S (O x)) H H'
  agr : ∀ x, x < H.size → O' x = O x
  wf : WfO H' O'
section
variable {S S' : Nat → Prop} {H H' H'' : Heap} {O O' O'' : Ow}
theorem Step.size (h : Step S H O H' O') : H.size ≤ H'.size := h.chg.size
theorem Step.trans (h : Step S H O H' O') (k : Step S H' O' H'' O'') : Step S H O H'' O'' :=
  ⟨⟨Nat.le_trans h.size k.size, fun b hb hs => (k.chg.get b (Nat.lt_of_lt_of_le hb h.size) (by rw [h.agr b hb]; exact hs)).trans (h.chg.get b hb hs)⟩,
    fun x hx => (k.agr x (Nat.lt_of_lt_of_le hx h.size)).trans (h.agr x hx), k.wf⟩
theorem Step.mono (h : Step S H O H' O') (hs : ∀ k, S k → S' k) : Step S' H O H' O' := ⟨h.chg.mono fun b _ => hs _, h.agr, h.wf⟩
theorem WfO.ext (w : WfO H O) (e : Ext H H') : WfO H' O := ⟨fun x hx => w.new x (Nat.le_trans e.size hx)⟩
theorem WfO.chg {T : Nat → Prop} (w : WfO H O) (e : Chg T H H') : WfO H' O := ⟨fun x hx => w.new x (Nat.le_trans e.size hx)⟩
theorem Ext.step (e : Ext H H') (w : WfO H O) : Step S H O H' O := ⟨e.chg _, fun _ _ => rfl, w.ext e⟩
theorem Chg.step {T : Nat → Prop} (c : Chg T H H') (w : WfO H O) (hs : ∀ x, x < H.size → T x → S (O x)) : Step S H O H' O := ⟨c.mono hs, fun _ _ => rfl, w.chg c⟩
open Classical in
/-- Blocks given away. -/
noncomputable def Ow.give (O : Ow) (p : Nat → Prop) (k : Nat) : Ow := fun x => if p x then k else O x
theorem Ow.give_pos {p : Nat → Prop} {k x : Nat} (h : p x) : O.give p k x = k := if_pos h
theorem Ow.give_neg {p : Nat → Prop} {k x : Nat} (h : ¬ p x) : O.give p k x = O x := if_neg h
theorem Step.give {p : Nat → Prop} {k : Nat} (h : Step S H O H' O') (hp : ∀ x, p x → H.size ≤ x ∧ x < H'.size) : Step S H O H' (O'.give p k) :=
  ⟨h.chg, fun x hx => by rw [Ow.give_neg fun e => by have := (hp x e).1; omega]; exact h.agr x hx,
    ⟨fun x hx => by rw [Ow.give_neg fun e => by have := (hp x e).2; omega]; exact h.wf.new x hx⟩⟩
theorem Blk.step {b : Nat} {e : TypeId} {vs : List Value} (h : Blk H b e vs) (s : Step S H O H' O') (hs : ¬ S (O b)) : Blk H' b e vs := h.chg s.chg hs
theorem MapI.step {b : Nat} {l : KV} (h : MapI H b l) (s : Step S H O H' O') (hs : ¬ S (O b)) : MapI H' b l := h.chg s.chg hs
theorem Step.own {b k : Nat} (s : Step S H O H' O') (hb : b < H.size) (h : O b = k) : O' b = k := (s.agr b hb).trans h
end
/-- A row that nobody writes any more. -/
structure RoF {β : Type} (f : β → Value) (d : β) (H : Heap) (O : Ow) (s : Sl) (l : List β) : Prop where
  row : RowF f d H s l
  ro : 0 < s.len → ∀ b, s.blk = some b → O b = 0
abbrev RoB (H : Heap) (O : Ow) (s : Sl) (l : List UInt8) : Prop := RoF B8 0 H O s l
structure RoH (H : Heap) (O : Ow) (s : Sl) (l : List HdT) : Prop where
  row : HRow H s l
  ro : 0 < s.len → ∀ b, s.blk = some b → O b = 0
section
variable {S : Nat → Prop} {H H' : Heap} {O O' : Ow} {s : Sl}
theorem RoF.nil {β : Type} {f : β → Value} {d : β} (H : Heap) (O : Ow) : RoF f d H O Sl.nil [] := ⟨RowF.nil H, fun h => by simp [Sl.nil] at h⟩
theorem RoH.nil (H : Heap) (O : Ow) : RoH H O Sl.nil [] := ⟨HRow.nil H, fun h => by simp [Sl.nil] at h⟩
theorem RoF.step {β : Type} {f : β → Value} {d : β} {l : List β} (h : RoF f d H O s l) (st : Step S H O H' O') (h0 : ¬ S 0) : RoF f d H' O' s l :=
  ⟨h.row.chgN st.chg fun hp b hb => ⟨h.row.lt hp b hb, by rw [h.ro hp b hb]; exact h0⟩, fun hp b hb => (st.agr b (h.row.lt hp b hb)).trans (h.ro hp b hb)⟩
theorem RoH.step {l : List HdT} (h : RoH H O s l) (st : Step S H O H' O') (h0 : ¬ S 0) : RoH H' O' s l :=
  ⟨h.row.chgN st.chg fun hp b hb => by rw [h.ro hp b hb]; exact h0, fun hp b hb => (st.agr b (h.row.lt hp b hb)).trans (h.ro hp b hb)⟩
/-- New, and not given away. -/
theorem RoF.new {β : Type} {f : β → Value} {d : β} {l : List β} (h : RowF f d H' s l) (w : WfO H O) (hb : ∀ b, s.blk = some b → H.size ≤ b) : RoF f d H' O s l := ⟨h, fun _ b k => w.new b (hb b k)⟩
theorem RoH.new {l : List HdT} (h : HRow H' s l) (w : WfO H O) (hb : ∀ b, s.blk = some b → H.size ≤ b) : RoH H' O s l := ⟨h, fun _ b k => w.new b (hb b k)⟩
end
end Go.Vc
