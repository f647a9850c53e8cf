/-
  The calculus, part 17: who may write where.
-/
import Derived.Test.YtaikdcnifijcoaaVcMap
import Derived.Test.YtaikdcnifijcoaaVcRowN
set_option linter.unusedVariables false
set_option linter.unusedSimpArgs false
namespace Go.Vc
/-- A number for each block: whose it is; 0: nobody writes there any more. -/
abbrev Ow := Nat → Nat
structure WfO (H : Heap) (O : Ow) : Prop where
  new : ∀ x, H.size ≤ x → O x = 0
/-- Only blocks of these owners change; new ones may be given. -/
structure Step (S : Nat → Prop) (H : Heap) (O : Ow) (H' : Heap) (O' : Ow) : Prop where
  chg : Chg (fun x => S (O x)) H H'
  agr : ∀ x, x < H.size → O' x = O x
  wf : WfO H' O'
section
variable {S S' : Nat → Prop} {H H' H'' : Heap} {O O' O'' : Ow}
theorem Step.refl (w : WfO H O) : Step S H O H O := ⟨Chg.refl _ _, fun _ _ => rfl, w⟩
theorem Step.size (h : Step S H O H' O') : H.size ≤ H'.size := h.chg.size
theorem Step.trans (h : Step S H O H' O') (k : Step S H' O' H'' O'') : Step S H O H'' O'' :=
  ⟨⟨Nat.le_trans h.size k.size, fun b hb hs => (k.chg.get b (Nat.lt_of_lt_of_le hb h.size) (by rw [h.agr b hb]; exact hs)).trans (h.chg.get b hb hs)⟩,
    fun x hx => (k.agr x (Nat.lt_of_lt_of_le hx h.size)).trans (h.agr x hx), k.wf⟩
theorem Step.mono (h : Step S H O H' O') (hs : ∀ k, S k → S' k) : Step S' H O H' O' := ⟨h.chg.mono fun b _ => hs _, h.agr, h.wf⟩
theorem WfO.ext (w : WfO H O) (e : Ext H H') : WfO H' O := ⟨fun x hx => w.new x (Nat.le_trans e.size hx)⟩
theorem WfO.chg {T : Nat → Prop} (w : WfO H O) (e : Chg T H H') : WfO H' O := ⟨fun x hx => w.new x (Nat.le_trans e.size hx)⟩
theorem Ext.step (e : Ext H H') (w : WfO H O) : Step S H O H' O := ⟨e.chg _, fun _ _ => rfl, w.ext e⟩
theorem Chg.step {T : Nat → Prop} (c : Chg T H H') (w : WfO H O) (hs : ∀ x, x < H.size → T x → S (O x)) : Step S H O H' O := ⟨c.mono hs, fun _ _ => rfl, w.chg c⟩
open Classical in
/-- Blocks given away. -/
noncomputable def Ow.give (O : Ow) (p : Nat → Prop) (k : Nat) : Ow := fun x => if p x then k else O x
theorem Ow.give_pos {p : Nat → Prop} {k x : Nat} (h : p x) : O.give p k x = k := if_pos h
theorem Ow.give_neg {p : Nat → Prop} {k x : Nat} (h : ¬ p x) : O.give p k x = O x := if_neg h
theorem Step.give {p : Nat → Prop} {k : Nat} (h : Step S H O H' O') (hp : ∀ x, p x → H.size ≤ x ∧ x < H'.size) : Step S H O H' (O'.give p k) :=
  ⟨h.chg, fun x hx => by rw [Ow.give_neg fun e => by have := (hp x e).1; omega]; exact h.agr x hx,
    ⟨fun x hx => by rw [Ow.give_neg fun e => by have := (hp x e).2; omega]; exact h.wf.new x hx⟩⟩
theorem Blk.step {b : Nat} {e : TypeId} {vs : List Value} (h : Blk H b e vs) (s : Step S H O H' O') (hs : ¬ S (O b)) : Blk H' b e vs := h.chg s.chg hs
theorem MapI.step {b : Nat} {l : KV} (h : MapI H b l) (s : Step S H O H' O') (hs : ¬ S (O b)) : MapI H' b l := h.chg s.chg hs
theorem Step.own {b k : Nat} (s : Step S H O H' O') (hb : b < H.size) (h : O b = k) : O' b = k := (s.agr b hb).trans h
end
/-- A row that nobody writes any more. -/
structure RoF {β : Type} (f : β → Value) (d : β) (H : Heap) (O : Ow) (s : Sl) (l : List β) : Prop where
  row : RowF f d H s l
  ro : 0 < s.len → ∀ b, s.blk = some b → O b = 0
abbrev RoB (H : Heap) (O : Ow) (s : Sl) (l : List UInt8) : Prop := RoF B8 0 H O s l
structure RoC {β : Type} (n : Nat) (f : β → List Value) (d : β) (H : Heap) (O : Ow) (s : Sl) (l : List β) : Prop where
  row : CRow n f d H s l
  ro : 0 < s.len → ∀ b, s.blk = some b → O b = 0
structure RoH (H : Heap) (O : Ow) (s : Sl) (l : List HdT) : Prop where
  row : HRow H s l
  ro : 0 < s.len → ∀ b, s.blk = some b → O b = 0
section
variable {S : Nat → Prop} {H H' : Heap} {O O' : Ow} {s : Sl}
theorem RoF.len {β : Type} {f : β → Value} {d : β} {l : List β} (h : RoF f d H O s l) : s.len = l.length := h.row.len
theorem RoH.len {l : List HdT} (h : RoH H O s l) : s.len = l.length := h.row.len
theorem RoF.nil {β : Type} {f : β → Value} {d : β} (H : Heap) (O : Ow) : RoF f d H O Sl.nil [] := ⟨RowF.nil H, fun h => by simp [Sl.nil] at h⟩
theorem RoH.nil (H : Heap) (O : Ow) : RoH H O Sl.nil [] := ⟨HRow.nil H, fun h => by simp [Sl.nil] at h⟩
theorem RoC.nil {β : Type} {n : Nat} {f : β → List Value} {d : β} (H : Heap) (O : Ow) : RoC n f d H O Sl.nil [] := ⟨CRow.nil H, fun h => by simp [Sl.nil] at h⟩
theorem RoF.step {β : Type} {f : β → Value} {d : β} {l : List β} (h : RoF f d H O s l) (st : Step S H O H' O') (h0 : ¬ S 0) : RoF f d H' O' s l :=
  ⟨h.row.chgN st.chg fun hp b hb => ⟨h.row.lt hp b hb, by rw [h.ro hp b hb]; exact h0⟩, fun hp b hb => (st.agr b (h.row.lt hp b hb)).trans (h.ro hp b hb)⟩
theorem RoH.step {l : List HdT} (h : RoH H O s l) (st : Step S H O H' O') (h0 : ¬ S 0) : RoH H' O' s l :=
  ⟨h.row.chgN st.chg fun hp b hb => by rw [h.ro hp b hb]; exact h0, fun hp b hb => (st.agr b (h.row.lt hp b hb)).trans (h.ro hp b hb)⟩
theorem RoC.step {β : Type} {n : Nat} {f : β → List Value} {d : β} {l : List β} (h : RoC n f d H O s l) (hf : ∀ x, (f x).length = n) (hn : 0 < n) (st : Step S H O H' O') (h0 : ¬ S 0) : RoC n f d H' O' s l :=
  ⟨h.row.chgN hf hn st.chg fun hp b hb => by rw [h.ro hp b hb]; exact h0, fun hp b hb => (st.agr b (h.row.lt hf hn hp b hb)).trans (h.ro hp b hb)⟩
theorem RoF.ext {β : Type} {f : β → Value} {d : β} {l : List β} (h : RoF f d H O s l) (e : Ext H H') : RoF f d H' O s l := ⟨h.row.ext e, h.ro⟩
theorem RoH.ext {l : List HdT} (h : RoH H O s l) (e : Ext H H') : RoH H' O s l := ⟨h.row.ext e, h.ro⟩
theorem RoC.ext {β : Type} {n : Nat} {f : β → List Value} {d : β} {l : List β} (h : RoC n f d H O s l) (e : Ext H H') : RoC n f d H' O s l := ⟨h.row.ext e, h.ro⟩
/-- New, and not given away. -/
theorem RoF.new {β : Type} {f : β → Value} {d : β} {l : List β} (h : RowF f d H' s l) (w : WfO H O) (hb : ∀ b, s.blk = some b → H.size ≤ b) : RoF f d H' O s l := ⟨h, fun _ b k => w.new b (hb b k)⟩
theorem RoH.new {l : List HdT} (h : HRow H' s l) (w : WfO H O) (hb : ∀ b, s.blk = some b → H.size ≤ b) : RoH H' O s l := ⟨h, fun _ b k => w.new b (hb b k)⟩
theorem RoC.new {β : Type} {n : Nat} {f : β → List Value} {d : β} {l : List β} (h : CRow n f d H' s l) (w : WfO H O) (hb : ∀ b, s.blk = some b → H.size ≤ b) : RoC n f d H' O s l := ⟨h, fun _ b k => w.new b (hb b k)⟩
/-- The same, if others are given away. -/
theorem RoF.give {β : Type} {f : β → Value} {d : β} {l : List β} {p : Nat → Prop} {k : Nat} (h : RoF f d H O s l) (hp : 0 < s.len → ∀ b, s.blk = some b → ¬ p b) : RoF f d H (O.give p k) s l :=
  ⟨h.row, fun h0 b hb => by rw [Ow.give_neg (hp h0 b hb)]; exact h.ro h0 b hb⟩
end
end Go.Vc
