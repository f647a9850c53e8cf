/-
  Rows of rows of bytes that nobody else writes.
-/
import Derived.Test.YtccgbgjhjpllcaaVcAgg
set_option linter.unusedVariables false
set_option linter.unusedSimpArgs false
namespace Go.Vc
structure Mat (H : Heap) (base : Nat) (e : TypeId) (t : Sl) (ss : List Sl) (m : List (List UInt8)) : Prop where
  arr : OwnF Sl.val H base e t ss
  len : ss.length = m.length
  each : ∀ k, k < m.length → Mine H base (ss.getD k Sl.nil) (m.getD k [])
  diff : ∀ i j, i < m.length → j < m.length → i ≠ j → ∀ b, (ss.getD i Sl.nil).blk = some b → (ss.getD j Sl.nil).blk ≠ some b
  apart : ∀ k, k < m.length → ∀ b, (ss.getD k Sl.nil).blk = some b → t.blk ≠ some b
section
variable {H H' : Heap} {base : Nat} {e : TypeId} {t : Sl} {ss : List Sl} {m : List (List UInt8)}
theorem Mat.nil (H : Heap) (base : Nat) (e : TypeId) : Mat H base e Sl.nil [] [] := ⟨OwnR.nil _ _ _ _, rfl, fun k hk => absurd hk (by simp), fun i j hi => absurd hi (by simp), fun k hk => absurd hk (by simp)⟩
theorem Mat.brows (h : Mat H base e t ss m) : BRows H t ss m := ⟨h.arr.rowF, h.len, fun k hk => (h.each k hk).bytes⟩
theorem Mat.bytes (h : Mat H base e t ss m) {k : Nat} (hk : k < m.length) : Bytes H (ss.getD k Sl.nil) (m.getD k []) := (h.each k hk).bytes
theorem Mat.row (h : Mat H base e t ss m) : RowF Sl.val Sl.nil H t ss := h.arr.rowF
theorem Mat.low {base' : Nat} (h : Mat H base e t ss m) (hb : base' ≤ base) : Mat H base' e t ss m := ⟨h.arr.low hb, h.len, fun k hk => (h.each k hk).low hb, h.diff, h.apart⟩
theorem Mat.chg {S : Nat → Prop} (h : Mat H base e t ss m) (c : Chg S H H') (hs : ∀ b, base ≤ b → b < H.size → ¬ S b) : Mat H' base e t ss m :=
  ⟨h.arr.chg c fun b hb => hs b (h.arr.blk_ge hb).1 (h.arr.blk_ge hb).2, h.len, fun k hk => (h.each k hk).chg c fun b hb => hs b ((h.each k hk).blk b hb).1 ((h.each k hk).blk b hb).2, h.diff, h.apart⟩
theorem Mat.ext (h : Mat H base e t ss m) (x : Ext H H') : Mat H' base e t ss m := h.chg (x.chg fun _ => False) fun _ _ _ k => k
/-- Blocks that the rows and their row are not in. -/
theorem Mat.chg' {S : Nat → Prop} (h : Mat H base e t ss m) (c : Chg S H H') (ht : ∀ b, t.blk = some b → ¬ S b) (hs : ∀ k b, k < m.length → (ss.getD k Sl.nil).blk = some b → ¬ S b) : Mat H' base e t ss m :=
  ⟨h.arr.chg c ht, h.len, fun k hk => (h.each k hk).chg c fun b hb => hs k b hk hb, h.diff, h.apart⟩
theorem getD_setL {β : Type} {l : List β} {i j : Nat} {v d : β} (hi : i < l.length) : (l.set i v).getD j d = if j = i then v else l.getD j d := by
  simp only [List.getD_eq_getElem?_getD, List.getElem?_set]
  by_cases h : i = j
  · subst h; simp [hi]
  · have h' : ¬ j = i := fun k => h k.symm
    simp [h, h']
/-- A byte is written. -/
theorem Mat.put (h : Mat H base e t ss m) {i j : Nat} (hi : i < m.length) (hj : j < (m.getD i []).length) (v : UInt8) :
    Mat (hset H ((ss.getD i Sl.nil).cell j) (B8 v)) base e t ss (m.set i ((m.getD i []).set j v)) ∧ Chg (fun b => base ≤ b) H (hset H ((ss.getD i Sl.nil).cell j) (B8 v)) := by
  obtain ⟨h1, h2⟩ := (h.each i hi).set hj v
  refine ⟨⟨h.arr.chg h2 fun b hb hb' => h.apart i hi b hb' hb, by rw [List.length_set]; exact h.len, fun k hk => ?_, ?_, ?_⟩, h2.mono fun b _ hb => ((h.each i hi).blk b hb).1⟩
  · rw [List.length_set] at hk
    rw [getD_setL hi]
    by_cases e' : k = i
    · subst e'; rw [if_pos rfl]; exact h1
    · rw [if_neg e']
      exact (h.each k hk).chg h2 fun b hb hb' => h.diff i k hi hk (fun x => e' x.symm) b hb' hb
  · intro a b ha hb; rw [List.length_set] at ha hb; exact h.diff a b ha hb
  · intro k hk; rw [List.length_set] at hk; exact h.apart k hk
theorem Mat.wr (h : Mat H base e t ss m) {i j : Nat} (hi : i < m.length) (hj : j < (m.getD i []).length) : Wr H ((ss.getD i Sl.nil).cell j) := (h.each i hi).wr hj
/-- A row more, appended. -/
theorem Mat.app {t' s : Sl} {l : List UInt8} {S : Nat → Prop} (h : Mat H base e t ss m) (hs : Mine H base s l) (hsep : ∀ k b, k < m.length → (ss.getD k Sl.nil).blk = some b → s.blk ≠ some b) (hst : ∀ b, s.blk = some b → t.blk ≠ some b)
    (ho : OwnF Sl.val H' base e t' (ss ++ [s])) (c : Chg (fun b => t.blk = some b) H H') (hb : t'.blk = t.blk ∨ ∃ b, t'.blk = some b ∧ H.size ≤ b) : Mat H' base e t' (ss ++ [s]) (m ++ [l]) := by
  have hg : ∀ k, k ≤ m.length → (ss ++ [s]).getD k Sl.nil = if k < m.length then ss.getD k Sl.nil else s := fun k hk => by
    have := h.len
    by_cases hlt : k < m.length
    · rw [if_pos hlt]; simp [List.getD_eq_getElem?_getD, List.getElem?_append, show k < ss.length from by omega]
    · rw [if_neg hlt]; simp [List.getD_eq_getElem?_getD, List.getElem?_append, show ¬ k < ss.length from by omega, show k - ss.length = 0 from by omega]
  have hm : ∀ k, k ≤ m.length → (m ++ [l]).getD k [] = if k < m.length then m.getD k [] else l := fun k hk => by
    by_cases hlt : k < m.length
    · rw [if_pos hlt]; simp [List.getD_eq_getElem?_getD, List.getElem?_append, hlt]
    · rw [if_neg hlt]; simp [List.getD_eq_getElem?_getD, List.getElem?_append, hlt, show k - m.length = 0 from by omega]
  have old : ∀ k, k < m.length → ∀ b, (ss.getD k Sl.nil).blk = some b → t'.blk ≠ some b := fun k hk b hkb ht => by
    rcases hb with hb | ⟨b', hb, hz⟩
    · exact h.apart k hk b hkb (hb ▸ ht)
    · have := ((h.each k hk).blk b hkb).2
      rw [hb] at ht
      simp only [Option.some.injEq] at ht
      omega
  refine ⟨ho, by simp [h.len], fun k hk => ?_, fun i j hi hj hne b h1 => ?_, fun k hk b h1 => ?_⟩
  · simp only [List.length_append, List.length_singleton] at hk
    rw [hg k (by omega), hm k (by omega)]
    by_cases hlt : k < m.length
    · rw [if_pos hlt, if_pos hlt]; exact (h.each k hlt).chg c fun b hb' hb'' => h.apart k hlt b hb' hb''
    · rw [if_neg hlt, if_neg hlt]; exact hs.chg c fun b hb' hb'' => hst b hb' hb''
  · simp only [List.length_append, List.length_singleton] at hi hj
    rw [hg i (by omega)] at h1
    rw [hg j (by omega)]
    by_cases hil : i < m.length <;> by_cases hjl : j < m.length
    · rw [if_pos hil] at h1; rw [if_pos hjl]; exact h.diff i j hil hjl hne b h1
    · rw [if_pos hil] at h1; rw [if_neg hjl]; exact hsep i b hil h1
    · rw [if_neg hil] at h1; rw [if_pos hjl]; exact fun h2 => hsep j b hjl h2 h1
    · omega
  · simp only [List.length_append, List.length_singleton] at hk
    rw [hg k (by omega)] at h1
    by_cases hlt : k < m.length
    · rw [if_pos hlt] at h1; exact old k hlt b h1
    · rw [if_neg hlt] at h1
      intro ht
      rcases hb with hb | ⟨b', hb, hz⟩
      · exact hst b h1 (hb ▸ ht)
      · have := (hs.blk b h1).2
        rw [hb] at ht
        simp only [Option.some.injEq] at ht
        omega
/-- Two rows change places. -/
theorem Mat.swap (h : Mat H base e t ss m) {i j : Nat} (hi : i < m.length) (hj : j < m.length) :
    Mat (hset (hset H (t.cell i) (ss.getD j Sl.nil).val) (t.cell j) (ss.getD i Sl.nil).val) base e t ((ss.set i (ss.getD j Sl.nil)).set j (ss.getD i Sl.nil)) ((m.set i (m.getD j [])).set j (m.getD i [])) ∧
    Chg (fun b => base ≤ b) H (hset (hset H (t.cell i) (ss.getD j Sl.nil).val) (t.cell j) (ss.getD i Sl.nil).val) := by
  have hl := h.len
  obtain ⟨o1, c1⟩ := OwnR.set h.arr (j := i) (by simp; omega) (ss.getD j Sl.nil).val
  have o1' : OwnF Sl.val (hset H (t.cell i) (ss.getD j Sl.nil).val) base e t (ss.set i (ss.getD j Sl.nil)) := by rw [OwnF, List.map_set]; exact o1
  obtain ⟨o2, c2⟩ := OwnR.set o1' (j := j) (by simp; omega) (ss.getD i Sl.nil).val
  have o2' : OwnF Sl.val (hset (hset H (t.cell i) (ss.getD j Sl.nil).val) (t.cell j) (ss.getD i Sl.nil).val) base e t ((ss.set i (ss.getD j Sl.nil)).set j (ss.getD i Sl.nil)) := by rw [OwnF, List.map_set]; exact o2
  have c := c1.trans c2
  let p : Nat → Nat := fun k => if k = j then i else if k = i then j else k
  have hp : ∀ k, k < m.length → p k < m.length := fun k hk => by simp only [p]; split <;> (try split) <;> omega
  have hinj : ∀ a b, a ≠ b → p a ≠ p b := fun a b hne => by simp only [p]; split <;> split <;> (try split) <;> (try split) <;> omega
  have hss : ∀ k, ((ss.set i (ss.getD j Sl.nil)).set j (ss.getD i Sl.nil)).getD k Sl.nil = ss.getD (p k) Sl.nil := fun k => by
    rw [getD_setL (by simp; omega), getD_setL (by omega)]
    simp only [p]
    split <;> (try split) <;> simp_all
  have hmm : ∀ k, ((m.set i (m.getD j [])).set j (m.getD i [])).getD k [] = m.getD (p k) [] := fun k => by
    rw [getD_setL (by simp; omega), getD_setL (by omega)]
    simp only [p]
    split <;> (try split) <;> simp_all
  refine ⟨⟨o2', by simpa using h.len, fun k hk => ?_, fun a b ha hb hne x hx => ?_, fun k hk x hx => ?_⟩, c.mono fun b _ hb => (h.arr.blk_ge hb).1⟩
  · simp only [List.length_set] at hk
    rw [hss, hmm]
    exact (h.each _ (hp k hk)).chg c fun b hb hb' => h.apart _ (hp k hk) b hb hb'
  · simp only [List.length_set] at ha hb
    rw [hss] at hx ⊢
    exact h.diff _ _ (hp a ha) (hp b hb) (hinj a b hne) x hx
  · simp only [List.length_set] at hk
    rw [hss] at hx
    exact h.apart _ (hp k hk) x hx
end
end Go.Vc
