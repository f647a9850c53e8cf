/-
  Three rows that grow side by side: numbers, numbers, slices of bytes.
-/
import Derived.Test.YtccgbgjhjpllcaaVMat
set_option linter.unusedVariables false
set_option linter.unusedSimpArgs false
namespace Go.Vc
theorem RowF.chg {β : Type} {f : β → Value} {d : β} {S : Nat → Prop} {H H' : Heap} {s : Sl} {l : List β} (h : RowF f d H s l) (c : Chg S H H') (hs : ∀ b, s.blk = some b → b < H.size ∧ ¬ S b) : RowF f d H' s l := by
  refine ⟨h.len, fun j hj => ?_⟩
  obtain ⟨b, hb⟩ := Sl.blk_some (s := s) (by rw [h.len]; omega)
  obtain ⟨h1, h2⟩ := hs b hb
  exact (hcell_block (by rw [Sl.cell_blk hb]; exact c.get b h1 h2)).trans (h.cell j hj)
/-- Rows of bytes, not written again; where they lie is known. -/
structure Lies (H : Heap) (ss : List Sl) (m : List (List UInt8)) : Prop where
  len : ss.length = m.length
  each : ∀ k, k < m.length → Bytes H (ss.getD k Sl.nil) (m.getD k [])
  lt : ∀ k, k < m.length → ∀ b, (ss.getD k Sl.nil).blk = some b → b < H.size
section
variable {H H' : Heap} {ss : List Sl} {m : List (List UInt8)}
theorem Lies.nil (H : Heap) : Lies H [] [] := ⟨rfl, fun k hk => absurd hk (by simp), fun k hk => absurd hk (by simp)⟩
theorem Lies.chg {S : Nat → Prop} (h : Lies H ss m) (c : Chg S H H') (hs : ∀ k, k < m.length → ∀ b, (ss.getD k Sl.nil).blk = some b → ¬ S b) : Lies H' ss m :=
  ⟨h.len, fun k hk => (h.each k hk).chg c fun b hb => ⟨h.lt k hk b hb, hs k hk b hb⟩, fun k hk b hb => Nat.lt_of_lt_of_le (h.lt k hk b hb) c.size⟩
theorem Lies.ext (h : Lies H ss m) (e : Ext H H') : Lies H' ss m := h.chg (e.chg fun _ => False) fun _ _ _ _ k => k
theorem getD_snoc {β : Type} {l : List β} {x d : β} {k n : Nat} (hl : l.length = n) (hk : k ≤ n) : (l ++ [x]).getD k d = if k < n then l.getD k d else x := by
  subst hl
  by_cases h : k < l.length
  · rw [if_pos h]; simp [List.getD_eq_getElem?_getD, List.getElem?_append, h]
  · rw [if_neg h]; simp [List.getD_eq_getElem?_getD, List.getElem?_append, h, show k - l.length = 0 from by omega]
theorem Lies.snoc {s : Sl} {l : List UInt8} (h : Lies H ss m) (hb : Bytes H s l) (hl : ∀ b, s.blk = some b → b < H.size) : Lies H (ss ++ [s]) (m ++ [l]) := by
  refine ⟨by simp [h.len], fun k hk => ?_, fun k hk b => ?_⟩
  · simp only [List.length_append, List.length_singleton] at hk
    rw [getD_snoc h.len (by omega), getD_snoc rfl (by omega)]
    split
    · exact h.each k (by assumption)
    · exact hb
  · simp only [List.length_append, List.length_singleton] at hk
    rw [getD_snoc h.len (by omega)]
    split
    · exact h.lt k (by assumption) b
    · exact hl b
end
/-- Two rows of numbers, one of slices of bytes; the slices' bytes lie elsewhere. -/
structure Tri (A : Heap) (base : Nat) (e : TypeId) (w f a : Sl) (wl fl : List Nat) (ss : List Sl) (m : List (List UInt8)) : Prop where
  wr : OwnF I64 A base 3 w wl
  fr : OwnF I64 A base 3 f fl
  ar : OwnF Sl.val A base e a ss
  li : Lies A ss m
  d1 : ∀ b, w.blk = some b → f.blk ≠ some b ∧ a.blk ≠ some b
  d2 : ∀ b, f.blk = some b → a.blk ≠ some b
  d3 : ∀ k, k < m.length → ∀ b, (ss.getD k Sl.nil).blk = some b → w.blk ≠ some b ∧ f.blk ≠ some b ∧ a.blk ≠ some b
section
variable {A A' : Heap} {base : Nat} {e : TypeId} {w f a : Sl} {wl fl : List Nat} {ss : List Sl} {m : List (List UInt8)}
theorem Tri.nil (A : Heap) (base : Nat) (e : TypeId) : Tri A base e Sl.nil Sl.nil Sl.nil [] [] [] [] :=
  ⟨OwnR.nil _ _ _ _, OwnR.nil _ _ _ _, OwnR.nil _ _ _ _, Lies.nil _, fun b h => by simp [Sl.blk, Sl.nil] at h, fun b h => by simp [Sl.blk, Sl.nil] at h, fun k hk => absurd hk (by simp)⟩
theorem Tri.ext (h : Tri A base e w f a wl fl ss m) (x : Ext A A') : Tri A' base e w f a wl fl ss m := ⟨h.wr.ext x, h.fr.ext x, h.ar.ext x, h.li.ext x, h.d1, h.d2, h.d3⟩
/-- What lies in a block of old is not in what is new. -/
theorem new_ne {x y : Sl} {b : Nat} (hb : x.blk = y.blk ∨ ∃ b, x.blk = some b ∧ A.size ≤ b) (h1 : y.blk ≠ some b) (h2 : b < A.size) : x.blk ≠ some b := by
  rcases hb with e | ⟨b', e, hz⟩
  · rw [e]; exact h1
  · rw [e]; simp only [ne_eq, Option.some.injEq]; omega
theorem Tri.addw {w' : Sl} {wl' : List Nat} (h : Tri A base e w f a wl fl ss m) (ho : OwnF I64 A' base 3 w' wl') (c : Chg (fun b => w.blk = some b) A A') (hb : w'.blk = w.blk ∨ ∃ b, w'.blk = some b ∧ A.size ≤ b) : Tri A' base e w' f a wl' fl ss m := by
  have q1 : ∀ b, f.blk = some b → w.blk ≠ some b := fun b hf hw => (h.d1 b hw).1 hf
  have q2 : ∀ b, a.blk = some b → w.blk ≠ some b := fun b ha hw => (h.d1 b hw).2 ha
  refine ⟨ho, h.fr.chg c q1, h.ar.chg c q2, h.li.chg c fun k hk b hx => (h.d3 k hk b hx).1, fun b hw => ⟨fun hf => ?_, fun ha => ?_⟩, h.d2, fun k hk b hx => ⟨?_, (h.d3 k hk b hx).2⟩⟩
  · exact new_ne hb (q1 b hf) (h.fr.blk_ge hf).2 hw
  · exact new_ne hb (q2 b ha) (h.ar.blk_ge ha).2 hw
  · exact new_ne hb (h.d3 k hk b hx).1 (h.li.lt k hk b hx)
theorem Tri.addf {f' : Sl} {fl' : List Nat} (h : Tri A base e w f a wl fl ss m) (ho : OwnF I64 A' base 3 f' fl') (c : Chg (fun b => f.blk = some b) A A') (hb : f'.blk = f.blk ∨ ∃ b, f'.blk = some b ∧ A.size ≤ b) : Tri A' base e w f' a wl fl' ss m := by
  have q1 : ∀ b, w.blk = some b → f.blk ≠ some b := fun b hw => (h.d1 b hw).1
  have q2 : ∀ b, a.blk = some b → f.blk ≠ some b := fun b ha hf => h.d2 b hf ha
  refine ⟨h.wr.chg c q1, ho, h.ar.chg c q2, h.li.chg c fun k hk b hx => (h.d3 k hk b hx).2.1, fun b hw => ⟨?_, (h.d1 b hw).2⟩, fun b hf ha => ?_, fun k hk b hx => ⟨(h.d3 k hk b hx).1, ?_, (h.d3 k hk b hx).2.2⟩⟩
  · exact new_ne hb (q1 b hw) (h.wr.blk_ge hw).2
  · exact new_ne hb (q2 b ha) (h.ar.blk_ge ha).2 hf
  · exact new_ne hb (h.d3 k hk b hx).2.1 (h.li.lt k hk b hx)
theorem Tri.adda {a' s : Sl} {l : List UInt8} (h : Tri A base e w f a wl fl ss m) (hs : Bytes A s l) (hl : ∀ b, s.blk = some b → b < A.size ∧ w.blk ≠ some b ∧ f.blk ≠ some b ∧ a.blk ≠ some b)
    (ho : OwnF Sl.val A' base e a' (ss ++ [s])) (c : Chg (fun b => a.blk = some b) A A') (hb : a'.blk = a.blk ∨ ∃ b, a'.blk = some b ∧ A.size ≤ b) : Tri A' base e w f a' wl fl (ss ++ [s]) (m ++ [l]) := by
  have hL := h.li.snoc hs fun b hb => (hl b hb).1
  have hsep : ∀ k, k < (m ++ [l]).length → ∀ b, ((ss ++ [s]).getD k Sl.nil).blk = some b → w.blk ≠ some b ∧ f.blk ≠ some b ∧ a.blk ≠ some b := fun k hk b => by
    simp only [List.length_append, List.length_singleton] at hk
    rw [getD_snoc h.li.len (by omega)]
    split
    · exact h.d3 k (by assumption) b
    · exact fun hb => (hl b hb).2
  refine ⟨h.wr.chg c fun b hw => (h.d1 b hw).2, h.fr.chg c fun b hf => h.d2 b hf, ho, hL.chg c fun k hk b hx => (hsep k hk b hx).2.2, fun b hw => ⟨(h.d1 b hw).1, ?_⟩, fun b hf => ?_, fun k hk b hx => ⟨(hsep k hk b hx).1, (hsep k hk b hx).2.1, ?_⟩⟩
  · exact new_ne hb (h.d1 b hw).2 (h.wr.blk_ge hw).2
  · exact new_ne hb (h.d2 b hf) (h.fr.blk_ge hf).2
  · exact new_ne hb (hsep k hk b hx).2.2 (hL.lt k hk b hx)
theorem Tri.brows (h : Tri A base e w f a wl fl ss m) : BRows A a ss m := ⟨h.ar.rowF, h.li.len, h.li.each⟩
theorem Tri.chg {S : Nat → Prop} (h : Tri A base e w f a wl fl ss m) (c : Chg S A A') (hs : ∀ b, base ≤ b → b < A.size → ¬ S b) (hr : ∀ k, k < m.length → ∀ b, (ss.getD k Sl.nil).blk = some b → ¬ S b) : Tri A' base e w f a wl fl ss m :=
  ⟨h.wr.chg c fun b hb => hs b (h.wr.blk_ge hb).1 (h.wr.blk_ge hb).2, h.fr.chg c fun b hb => hs b (h.fr.blk_ge hb).1 (h.fr.blk_ge hb).2, h.ar.chg c fun b hb => hs b (h.ar.blk_ge hb).1 (h.ar.blk_ge hb).2, h.li.chg c hr, h.d1, h.d2, h.d3⟩
end
end Go.Vc
