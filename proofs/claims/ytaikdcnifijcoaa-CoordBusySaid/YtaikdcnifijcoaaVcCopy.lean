/-
  The calculus, part 13: copy into a fresh row; rows that grow side by side.
-/
import Derived.Test.YtaikdcnifijcoaaVcMsg
set_option linter.unusedVariables false
set_option linter.unusedSimpArgs false
namespace Go.Vc
theorem puts_at : ∀ (us pre rest : List Value), us.length ≤ rest.length → puts (pre ++ rest) pre.length us = pre ++ us ++ rest.drop us.length
  | [], pre, rest, _ => by simp [puts]
  | v :: r, pre, [], h => absurd h (by simp)
  | v :: r, pre, x :: rest, h => by
    have e : (pre ++ x :: rest).set pre.length v = (pre ++ [v]) ++ rest := by
      rw [List.set_append_right _ _ (Nat.le_refl _)]; simp
    have e2 : pre.length + 1 = (pre ++ [v]).length := by simp
    rw [puts, e, e2, puts_at r (pre ++ [v]) rest (by simpa using h)]
    simp
theorem puts_zero {us cs : List Value} (h : us.length ≤ cs.length) : puts cs 0 us = us ++ cs.drop us.length := by
  have := puts_at us [] cs h
  simpa using this
theorem OwnR.toBlk {H : Heap} {base g n : Nat} {e : TypeId} {xs : List Value} (h : OwnR H base e 1 (Sl.fresh g n) xs) : Blk H g e xs := by
  obtain ⟨h1, h2⟩ := h
  rcases h2 with h2 | ⟨g', cur, ha, hg, hh, hl, hm, hc, ht⟩
  · simp [Sl.fresh] at h2
  · simp only [Sl.fresh, Option.some.injEq, Addr.mk.injEq, and_true] at ha
    subst ha
    refine ⟨?_⟩
    have hc' : cur.size = n := by simpa [Sl.fresh] using hc
    have : cur.toList = xs := by
      rw [← ht, List.take_of_length_le]
      simp [Sl.fresh]; omega
    rw [hh, ← this]
theorem OwnR.ofBlk {H : Heap} {base g n : Nat} {e : TypeId} {xs : List Value} (h : Blk H g e xs) (hb : base ≤ g) (hn : xs.length = n) (hm : n ≤ maxLen) : OwnR H base e 1 (Sl.fresh g n) xs :=
  ⟨by simp [Sl.fresh, hn], .inr ⟨g, xs.toArray, rfl, hb, h.at_, Nat.le_refl _, hm, by simp [Sl.fresh, hn], by simp [Sl.fresh, ← hn]⟩⟩
section
variable {C : Cx} {o : Oper} {L : Env} {H : Heap}
theorem Ef.copyB [Tbl C.P] {t u e e' g n sz bt bytes : Nat} {z z' : Value} {d : TypeDesc} {x y : Operand} {r : Sl} {vs ys : List Value} {K : Value → Heap → Prop}
    (ho : o.op = .call { callee := .builtin .copy, args := #[x, y], argTypes := #[t, u] }) (hx : L.ev x = some (Sl.fresh g n).val) (hy : L.ev y = some r.val)
    (ht : ty C.P t = some ⟨.slice e, sz, bt, z⟩) (he : ty C.P e = some ⟨d, 1, bytes, z'⟩) (hb : Blk H g e' vs) (hn : vs.length = n) (hr : Row H r ys) (hl : ys.length ≤ n) (h1 : ∀ v ∈ ys, oneCell v = true)
    (hk : K (.int .i64 (ys.length : Int)) (hsets H g 0 ys)) : Ef C o L H K :=
  Ef.of (by rw [ho]; rfl) fun act w ha hw => by
    have e1 := agr_of ha hx (by rw [ho]; simp [Op.operands, Call.operands])
    have e2 := agr_of ha hy (by rw [ho]; simp [Op.operands, Call.operands])
    subst hw
    obtain ⟨i, hi, hz1, hs1, hb1⟩ := ty.info he
    have hrl := hr.len
    have hrun : (Builtin.copy_ #[t, u] o.type #[(Sl.fresh g n).val, r.val]).run C.P w = .ok (goInt ys.length) (w.setCells g 0 ys) := by
      cases hro : r.ao with
      | none =>
        obtain ⟨h3, h4⟩ := r.ok hro
        have hys : ys = [] := List.eq_nil_of_length_eq_zero (by omega)
        subst hys
        have := run_copy_none (P := C.P) w t u o.type e (some ⟨g, 0, none⟩) none n n 0 0 (Tbl.ok.find ht).1 (by rw [hi]; simp [hs1]) (by simp)
        simpa [Sl.val, Sl.fresh, hro, h3, h4, World.setCells] using this
      | some ad =>
        have := run_copy_cells (P := C.P) w t u o.type e g 0 n n ad r.len r.cap ys (Tbl.ok.find ht).1 (by rw [hi]; simp [hs1]) (by rw [hrl]; exact (Nat.min_eq_left (by omega)).symm)
          (fun j v hj => by rw [add_eq_cell r ad hro]; exact hr.cell j v hj) (fun j hj => by
            rw [show w.cell? ⟨g, 0 + j, none⟩ = hcell w.heap ⟨g, 0 + j, none⟩ from rfl, blk_cell hb.at_]
            simp; omega) (fun j hj => blk_free hb.at_) (fun v hv => oneCell_of (h1 v hv))
        simpa [Sl.val, Sl.fresh, hro] using this
    refine .inl ⟨.int .i64 (ys.length : Int), w.setCells g 0 ys, ?_, setCells_sim g ys 0 w, by rw [setCells_heap]; exact hk⟩
    simp [execOp, ho, resolve, invoke, builtin, e1, e2, hrun, Result.andThen, Sem.run_bind, Sem.run, goInt]
end
section
variable {C : Cx} {ops : Array Oper} {l : List Oper} {L : Env} {ds : List Nat} {H : Heap} {Kk : Env → Heap → Prop} {o : Oper}
theorem RegS.copyB [Tbl C.P] {t u e e' g n sz bt bytes dst : Nat} {z z' : Value} {d : TypeDesc} {x y : Operand} {r : Sl} {vs ys : List Value} (hb : Blk H g e' vs) (hn : vs.length = n) (hr : Row H r ys) (hl : ys.length ≤ n) (h1 : ∀ v ∈ ys, oneCell v = true)
    (k : RegS C ops l ((dst, .int .i64 (ys.length : Int)) :: L) ds (hsets H g 0 ys) Kk)
    (ho : o.op = .call { callee := .builtin .copy, args := #[x, y], argTypes := #[t, u] } := by rfl) (hx : L.ev x = some (Sl.fresh g n).val := by rfl) (hy : L.ev y = some r.val := by rfl)
    (ht : ty C.P t = some ⟨.slice e, sz, bt, z⟩ := by rfl) (he : ty C.P e = some ⟨d, 1, bytes, z'⟩ := by rfl)
    (hds : o.dst = some dst := by rfl) (hg : gd ops o L = some true := by rfl) (hdd : Nat.blt dst C.N = true := by rfl) : RegS C ops (o :: l) L ds H Kk :=
  RegS.ef hg (by rw [hds]; exact hdd) (Ef.copyB ho hx hy ht he hb hn hr hl h1 (by rw [hds]; exact k))
end
/-! ### Rows that grow side by side -/
structure GMat (H : Heap) (base : Nat) (e : TypeId) (t : Sl) (ss : List Sl) (m : List (List UInt8)) : Prop where
  arr : OwnF Sl.val H base e t ss
  len : ss.length = m.length
  each : ∀ k, k < m.length → OwnF B8 H base 5 (ss.getD k Sl.nil) (m.getD k [])
  diff : ∀ i j, i < m.length → j < m.length → i ≠ j → ∀ b, (ss.getD i Sl.nil).blk = some b → (ss.getD j Sl.nil).blk ≠ some b
  apart : ∀ k, k < m.length → ∀ b, (ss.getD k Sl.nil).blk = some b → t.blk ≠ some b
section
variable {H H' : Heap} {base : Nat} {e : TypeId} {t : Sl} {ss : List Sl} {m : List (List UInt8)}
theorem GMat.ext (h : GMat H base e t ss m) (x : Ext H H') : GMat H' base e t ss m := ⟨h.arr.ext x, h.len, fun k hk => (h.each k hk).ext x, h.diff, h.apart⟩
theorem GMat.brows (h : GMat H base e t ss m) : BRows H t ss m := ⟨h.arr.rowF, h.len, fun k hk => (h.each k hk).rowF⟩
theorem GMat.low {base' : Nat} (h : GMat H base e t ss m) (hb : base' ≤ base) : GMat H base' e t ss m := ⟨h.arr.low hb, h.len, fun k hk => (h.each k hk).low hb, h.diff, h.apart⟩
theorem GMat.rws (h : GMat H base e t ss m) : Rws H base e t ss m := ⟨h.arr, ⟨h.len, fun k hk => (h.each k hk).rowF, fun k hk b hb => ((h.each k hk).blk_ge hb).2⟩, h.apart⟩
/-- A row has grown, and is put back. -/
theorem GMat.grow (h : GMat H base e t ss m) {i : Nat} (hi : i < m.length) {s' : Sl} {l : List UInt8} (ho : OwnF B8 H' base 5 s' l) (c : Chg (fun b => (ss.getD i Sl.nil).blk = some b) H H') (hb : s'.blk = (ss.getD i Sl.nil).blk ∨ ∃ b, s'.blk = some b ∧ H.size ≤ b) :
    GMat (hset H' (t.cell i) s'.val) base e t (ss.set i s') (m.set i l) ∧ OwnF Sl.val H' base e t ss ∧ Chg (fun b => base ≤ b) H (hset H' (t.cell i) s'.val) := by
  have hl := h.len
  have arr1 : OwnF Sl.val H' base e t ss := h.arr.chg c fun b hb hb' => h.apart i hi b hb' hb
  obtain ⟨o1, c1⟩ := OwnR.set arr1 (j := i) (by simp; omega) s'.val
  have o1' : OwnF Sl.val (hset H' (t.cell i) s'.val) base e t (ss.set i s') := by rw [OwnF, List.map_set]; exact o1
  have hst : ∀ b, s'.blk = some b → t.blk ≠ some b := fun b hb' ht => by
    rcases hb with e' | ⟨b', e', hz⟩
    · exact h.apart i hi b (e' ▸ hb') ht
    · rw [e'] at hb'; simp only [Option.some.injEq] at hb'; have := (h.arr.blk_ge ht).2; omega
  have hs' : ∀ k, k < m.length → k ≠ i → ∀ b, (ss.getD k Sl.nil).blk = some b → s'.blk ≠ some b := fun k hk hne b hkb hb' => by
    rcases hb with e' | ⟨b', e', hz⟩
    · exact h.diff k i hk hi hne b hkb (e' ▸ hb')
    · rw [e'] at hb'; simp only [Option.some.injEq] at hb'; have := ((h.each k hk).blk_ge hkb).2; omega
  refine ⟨⟨o1', by simp [hl], fun k hk => ?_, fun a b ha hb' hne x hx => ?_, fun k hk b hx => ?_⟩, arr1, ?_⟩
  · rw [List.length_set] at hk
    rw [getD_setL (by omega), getD_setL hi]
    split
    · exact OwnR.chg ho c1 fun b hb' ht => hst b hb' ht
    · rename_i hne
      exact ((h.each k hk).chg c fun b hb' hb'' => h.diff i k hi hk (fun x => hne x.symm) b hb'' hb').chg c1 fun b hb' ht => h.apart k hk b hb' ht
  · rw [List.length_set] at ha hb'
    rw [getD_setL (by omega)] at hx
    rw [getD_setL (by omega)]
    by_cases e1 : a = i <;> by_cases e2 : b = i
    · omega
    · rw [if_pos e1] at hx; rw [if_neg e2]
      exact fun k => hs' b hb' e2 x k hx
    · rw [if_neg e1] at hx; rw [if_pos e2]
      exact hs' a ha e1 x hx
    · rw [if_neg e1] at hx; rw [if_neg e2]
      exact h.diff a b ha hb' hne x hx
  · rw [List.length_set] at hk
    rw [getD_setL (by omega)] at hx
    split at hx
    · exact hst b hx
    · exact h.apart k hk b hx
  · exact Chg.trans (c.mono fun b _ hb' => ((h.each i hi).blk_ge hb').1) (c1.mono fun b _ hb' => (arr1.blk_ge hb').1)
end
theorem Mat.keep {B base : Nat} {A A' : Heap} {e : TypeId} {t : Sl} {ss : List Sl} {m : List (List UInt8)} (h : Mat A base e t ss m) (k : Keep B A A') : Mat A' base e t ss m :=
  ⟨OwnR.keep h.arr k, h.len, fun j hj => (h.each j hj).keep k, h.diff, h.apart⟩
end Go.Vc
