/-
  From walks to rows, on: a script of layer 21 opened.
-/
import Derived.Test.YtaikdcnifijcoaaGreatQ48
import Derived.Test.YtaikdcnifijcoaaGreatQ08
import Derived.Deep.SlicePairs
import Derived.Deep.CondSized
import Derived.Test.YtaikdcnifijcoaaGreatQ11
import Derived.Test.YtaikdcnifijcoaaGreatQ24
import Derived.Test.YtaikdcnifijcoaaGreatQ47
set_option linter.unusedVariables false
set_option linter.unusedSimpArgs false
namespace Go.Proofs.YtaikdcnifijcoaaGreat
open Go Go.Vc Go.ChangeShapes Go.WideShapes Go.ChangeAt Go.RowKit Go.Proofs.YtaikdcnifijcoaaGreat.Rows
theorem bulk_one {H : Type} (d : DataW H) : 1 ≤ uptoBulk d := by
  cases d with
  | lit l => cases l <;> simp [uptoBulk]
  | nil => simp [uptoBulk]
  | ptr d => simp [uptoBulk]
  | slice elems spare => simp [uptoBulk]
  | agg parts => simp [uptoBulk]
  | iface t d => simp [uptoBulk]
  | map entries => simp [uptoBulk]
  | held h => simp [uptoBulk]
theorem bulk_part {H : Type} {d : DataW H} {l : List (DataW H)} (h : d ∈ l) : uptoBulk d ≤ uptoBulkAll l := by
  induction l with
  | nil => cases h
  | cons x r ih =>
    simp only [uptoBulkAll]
    cases List.mem_cons.1 h with
    | inl e => subst e; omega
    | inr e => have := ih e; omega
theorem bulk_sum {H : Type} (l : List (DataW H)) : uptoBulkAll l = (l.map uptoBulk).sum := by
  induction l with
  | nil => simp [uptoBulkAll]
  | cons x l ih => simp only [uptoBulkAll, List.map_cons, List.sum_cons, ih]
theorem bulk_len {H : Type} (l : List (DataW H)) : l.length ≤ uptoBulkAll l := by
  induction l with
  | nil => simp [uptoBulkAll]
  | cons x r ih => have := bulk_one x; simp only [uptoBulkAll, List.length_cons]; omega
def hdN (l : List HdT) : Nat := (l.map fun x => x.1.length + 3).sum
theorem hdN_w (l : List HdT) : hdW l ≤ 2 * hdN l := by
  induction l with
  | nil => simp [hdW, hdN]
  | cons a r ih => simp only [hdW, hdN, List.map_cons, List.sum_cons] at *; omega
theorem hdN_len (l : List HdT) : l.length ≤ hdN l := by
  induction l with
  | nil => simp [hdN]
  | cons a r ih => simp only [hdN, List.map_cons, List.sum_cons, List.length_cons] at *; omega
theorem hdN_each : ∀ (l : List HdT) (j : Nat), j < l.length → (l.getD j ([], 0)).1.length ≤ hdN l
  | [], j, h => absurd h (by simp)
  | a :: r, 0, _ => by simp only [hdN, List.map_cons, List.sum_cons, List.getD_cons_zero]; omega
  | a :: r, j + 1, h => by
    have := hdN_each r j (by simpa using h)
    simp only [hdN, List.map_cons, List.sum_cons, List.getD_cons_succ] at this ⊢
    omega
theorem bulk_slice {H : Type} (l r : List (DataW H)) : uptoBulkAll l ≤ uptoBulk (.slice l r) := by
  simp only [uptoBulk]; omega
section
variable {H : Type} {enc : TypeId × Value → H} {P : Program} {W : World}
/-- A slice of numbers, in cells. -/
theorem cells_nums {t e : TypeId} {k : IntKind} {fuel : Nat} {cs : List Value} {x : DataW H × List MemPlace} (ht : P.underlying t = some (.slice e)) (he : P.underlying e = some (.int k)) (hc : P.cellsOf e = 1)
    (h : DataW.trod enc P W 0 (fun _ => true) true fuel t cs = some x) :
    ∃ (s : Sl) (zs : List Int), cs = [s.val] ∧ s.len = zs.length ∧ (∀ j, j < zs.length → hcell W.heap (s.cell j) = some (.int k (zs.getD j 0))) ∧ (∀ z ∈ zs, (Lit.int k z).wf = true) ∧ zs.length ≤ uptoBulk x.1 := by
  rcases open_ints ht he hc h with ⟨rfl, rfl⟩ | ⟨a, len, cap, zs, rfl, _, hl, hm, hz, rfl, hcell, hwz⟩
  · exact ⟨Sl.nil, [], rfl, rfl, fun j hj => absurd hj (by simp), fun z hz => absurd hz (by simp), by simp⟩
  · simp only [if_true] at hz
    refine ⟨⟨some a, len, cap, fun h => (by cases h), hl⟩, zs.take len, rfl, by simp; omega, fun j hj => ?_, fun z hz => hwz z (List.mem_of_mem_take hz), ?_⟩
    · have hj1 : j < len := by simp at hj; omega
      have h1 := hcell j (by omega)
      rw [Sl.cell_eq]
      simp only [Option.getD_some]
      have hg : (zs.take len).getD j 0 = zs.getD j 0 := by simp [List.getD_eq_getElem?_getD, List.getElem?_take, hj1]
      rw [hg]
      exact h1
    · have h1 := bulk_len (H := H) (lits k (zs.take len))
      have h2 := bulk_slice (H := H) (lits k (zs.take len)) (lits k (zs.drop len))
      simp only [lits, List.length_map] at h1
      simp only [lits] at h1 h2 ⊢
      omega
theorem cells_ints {t e : TypeId} {fuel : Nat} {cs : List Value} {x : DataW H × List MemPlace} (ht : P.underlying t = some (.slice e)) (he : P.underlying e = some (.int .i64)) (hc : P.cellsOf e = 1)
    (h : DataW.trod enc P W 0 (fun _ => true) true fuel t cs = some x) : ∃ (s : Sl) (l : List Int), cs = [s.val] ∧ RowF IV 0 W.heap s l ∧ l.length ≤ uptoBulk x.1 := by
  obtain ⟨s, zs, h1, h2, h3, _, h4⟩ := cells_nums ht he hc h
  exact ⟨s, zs, h1, ⟨h2, h3⟩, h4⟩
theorem cells_bytes {t e : TypeId} {fuel : Nat} {cs : List Value} {x : DataW H × List MemPlace} (ht : P.underlying t = some (.slice e)) (he : P.underlying e = some (.int .u8)) (hc : P.cellsOf e = 1)
    (h : DataW.trod enc P W 0 (fun _ => true) true fuel t cs = some x) : ∃ (s : Sl) (l : List UInt8), cs = [s.val] ∧ Bytes W.heap s l ∧ l.length ≤ uptoBulk x.1 := by
  obtain ⟨s, zs, h1, h2, h3, hw, h4⟩ := cells_nums ht he hc h
  refine ⟨s, zs.map fun n => UInt8.ofNat n.toNat, h1, ⟨by simp [h2], fun j hj => ?_⟩, by simpa using h4⟩
  have hj' : j < zs.length := by simpa using hj
  rw [h3 j hj']
  have hn : zs.getD j 0 = zs[j] := by simp [List.getD_eq_getElem?_getD, List.getElem?_eq_getElem hj']
  obtain ⟨b, hb⟩ := byte_of (hw zs[j] (List.getElem_mem hj'))
  have hg : (zs.map fun n => UInt8.ofNat n.toNat).getD j 0 = UInt8.ofNat zs[j].toNat := by simp [List.getD_eq_getElem?_getD, List.getElem?_eq_getElem hj']
  rw [hg, hn, hb, B8]
  simp
/-- A slice of pairs, a text and a number, in cells. -/
theorem cells_heads {t e : TypeId} {f0 f1 : Field} {fuel : Nat} {cs : List Value} {x : DataW H × List MemPlace} (ht : P.underlying t = some (.slice e)) (he : P.underlying e = some (.struct #[f0, f1]))
    (ce : P.cellsOf e = 2) (o0 : f0.offset = 0) (o1 : f1.offset = 1) (c0 : P.cellsOf f0.type = 1) (c1 : P.cellsOf f1.type = 1) (u0 : P.underlying f0.type = some .string) (u1 : P.underlying f1.type = some (.int .i64))
    (h : DataW.trod enc P W 0 (fun _ => true) true fuel t cs = some x) :
    ∃ (s : Sl) (l : List HdT), cs = [s.val] ∧ HRow W.heap s l ∧ hdN l ≤ uptoBulk x.1 := by
  rcases Go.Deep.open_slice_pairs ht he ce o0 o1 c0 c1 h with ⟨rfl, rfl⟩ | ⟨a, len, cap, m, n, V0, V1, D0, D1, P0, P1, rfl, _, hl, hm, hmm, rfl, hx⟩
  · exact ⟨Sl.nil, [], rfl, HRow.nil _, by simp [hdN]⟩
  · simp only [if_true] at hmm
    have each : ∀ i, i < len → ∃ q : HdT, V0 i = S q.1 ∧ V1 i = .int .i64 q.2 ∧ D0 i = .lit (.string q.1) ∧ D1 i = .lit (.int .i64 q.2) := fun i hi => by
      obtain ⟨_, _, g0, g1⟩ := hx i (by omega)
      obtain ⟨s, e1, e2, _⟩ := DataW.trod_string u0 g0
      obtain ⟨z, e3, e4, _⟩ := DataW.trod_int u1 g1
      simp only [List.cons.injEq, and_true] at e1 e3
      simp only [Prod.mk.injEq] at e2 e4
      exact ⟨(s.data.toList, z), by rw [e1, S], e3, e2.1, e4.1⟩
    obtain ⟨q, hq⟩ := Go.Deep.choose_lt each
    have hg : ∀ j, j < len → ((List.range len).map q).getD j ([], 0) = q j := fun j hj => by simp [List.getD_eq_getElem?_getD, List.getElem?_range, hj]
    refine ⟨⟨some a, len, cap, fun h => (by cases h), hl⟩, (List.range len).map q, rfl, ⟨by simp, fun j hj => ?_, fun j hj => ?_⟩, ?_⟩
    · have hj' : j < len := by simpa using hj
      rw [hg j hj', ← (hq j hj').1, Sl.cell_eq]
      exact (hx j (by omega)).1
    · have hj' : j < len := by simpa using hj
      rw [hg j hj', ← (hq j hj').2.1, Sl.cell_eq]
      exact (hx j (by omega)).2.1
    · refine Nat.le_trans ?_ (bulk_slice _ _)
      rw [bulk_sum, hdN, List.map_map, List.map_map]
      have : ∀ k, k ≤ len → (((List.range k).map ((fun x : HdT => x.1.length + 3) ∘ q))).sum ≤ (((List.range k).map (uptoBulk ∘ fun i => DataW.agg [D0 i, D1 i]))).sum := by
        intro k
        induction k with
        | zero => intro _; simp
        | succ k ih =>
          intro hk
          have h1 := ih (by omega)
          obtain ⟨_, _, e1, e2⟩ := hq k (by omega)
          rw [List.range_succ, List.map_append, List.map_append, List.sum_append, List.sum_append]
          have h2 : uptoBulk (DataW.agg [D0 k, D1 k]) = (q k).1.length + 3 := by rw [e1, e2]; simp [uptoBulk, uptoBulkAll]
          simp only [List.map_cons, List.map_nil, List.sum_cons, List.sum_nil, Function.comp_apply, h2] at h1 ⊢
          omega
      exact this len (Nat.le_refl _)
end
section
variable {H : Type} {enc : TypeId × Value → H} {P : Program} {W : World}
/-- A message, in cells. -/
theorem cells_msg {t th eh ti tb : TypeId} {f0 f1 : Field} {fs : Array Field} {fuel : Nat} {cs : List Value} {x : DataW H × List MemPlace} (hu : P.underlying t = some (.struct fs)) (hc : P.cellsOf t = 16)
    (hone : ∀ (i : Nat) (f : Field), fs[i]? = some f → f.offset = i ∧ P.cellsOf f.type = 1) (hn : fs.size = 16)
    (hi : ∀ i ∈ [0, 1, 2, 3, 4, 5, 6, 9, 10, 11, 14], (fs[i]?.bind fun f => P.underlying f.type) = some (.int .i64)) (hid : (fs[8]?.bind fun f => P.underlying f.type) = some .string)
    (hhd : (fs[7]?.bind fun f => P.underlying f.type) = some (.slice eh)) (hde : (fs[12]?.bind fun f => P.underlying f.type) = some (.slice ti)) (hpa : (fs[13]?.bind fun f => P.underlying f.type) = some (.slice ti)) (hda : (fs[15]?.bind fun f => P.underlying f.type) = some (.slice tb))
    (he : P.underlying eh = some (.struct #[f0, f1])) (ce : P.cellsOf eh = 2) (o0 : f0.offset = 0) (o1 : f1.offset = 1) (c0 : P.cellsOf f0.type = 1) (c1 : P.cellsOf f1.type = 1) (u0 : P.underlying f0.type = some .string) (u1 : P.underlying f1.type = some (.int .i64))
    (ui : P.underlying ti = some (.int .i64)) (ci : P.cellsOf ti = 1) (ub : P.underlying tb = some (.int .u8)) (cb : P.cellsOf tb = 1)
    (h : DataW.trod enc P W 0 (fun _ => true) true fuel t cs = some x) :
    ∃ (m : MsgA) (s : MsgS), cs = msgC m s ∧ MsgIn W.heap m s ∧ (uptoBulk x.1 ≤ 1048576 → MsgFit m) ∧ m.data.length ≤ uptoBulk x.1 := by
  obtain ⟨xs, n, _, rfl, hl, hxl, hfld⟩ := DataW.trod_struct hu h
  rw [hc] at hl
  have each : ∀ i (hi16 : i < 16), ∃ f, fs[i]? = some f ∧ DataW.trod enc P W 0 (fun _ => true) true n f.type [cs[i]] = some (xs[i]) := by
    intro i hi16
    have hfi : fs[i]? = some fs[i] := Array.getElem?_eq_getElem (by omega)
    obtain ⟨ho, hc1⟩ := hone i _ hfi
    have g := hfld i _ hfi
    rw [ho, hc1, Go.Deep.take1_drop cs i undef (by omega), List.getElem?_eq_getElem (by omega)] at g
    refine ⟨_, hfi, ?_⟩
    rw [← g]
    simp [List.getD_eq_getElem?_getD, List.getElem?_eq_getElem (show i < cs.length by omega)]
  have hw : ∀ i (hi16 : i < 16), uptoBulk (xs[i]).1 + 1 ≤ uptoBulk (DataW.agg (xs.map (·.1))) := fun i hi16 => by
    have := bulk_part (d := (xs[i]).1) (l := xs.map (·.1)) (List.mem_map.2 ⟨_, List.getElem_mem _, rfl⟩)
    simp only [uptoBulk]
    omega
  have int : ∀ i (hi16 : i < 16), i ∈ [0, 1, 2, 3, 4, 5, 6, 9, 10, 11, 14] → ∃ z : Int, cs[i] = IV z := fun i hi16 hm => by
    obtain ⟨f, hf, g⟩ := each i hi16
    have u := hi i hm
    rw [hf] at u
    obtain ⟨z, e1, _, _⟩ := DataW.trod_int u g
    exact ⟨z, by simpa using e1⟩
  obtain ⟨z0, e0⟩ := int 0 (by omega) (by simp)
  obtain ⟨z1, e1⟩ := int 1 (by omega) (by simp)
  obtain ⟨z2, e2⟩ := int 2 (by omega) (by simp)
  obtain ⟨z3, e3⟩ := int 3 (by omega) (by simp)
  obtain ⟨z4, e4⟩ := int 4 (by omega) (by simp)
  obtain ⟨z5, e5⟩ := int 5 (by omega) (by simp)
  obtain ⟨z6, e6⟩ := int 6 (by omega) (by simp)
  obtain ⟨z9, e9⟩ := int 9 (by omega) (by simp)
  obtain ⟨z10, e10⟩ := int 10 (by omega) (by simp)
  obtain ⟨z11, e11⟩ := int 11 (by omega) (by simp)
  obtain ⟨z14, e14⟩ := int 14 (by omega) (by simp)
  obtain ⟨fi, hfi, gi⟩ := each 8 (by omega)
  rw [hfi] at hid
  obtain ⟨sid, e8, w8, _⟩ := DataW.trod_string hid gi
  obtain ⟨fh, hfh, gh⟩ := each 7 (by omega)
  rw [hfh] at hhd
  obtain ⟨sh, lh, e7, rh, bh⟩ := cells_heads hhd he ce o0 o1 c0 c1 u0 u1 gh
  obtain ⟨fd, hfd, gd⟩ := each 12 (by omega)
  rw [hfd] at hde
  obtain ⟨sd, ld, e12, rd, bd⟩ := cells_ints hde ui ci gd
  obtain ⟨fp, hfp, gp⟩ := each 13 (by omega)
  rw [hfp] at hpa
  obtain ⟨sp, lp, e13, rp, bp⟩ := cells_ints hpa ui ci gp
  obtain ⟨fa, hfa, ga⟩ := each 15 (by omega)
  rw [hfa] at hda
  obtain ⟨sa, la, e15, ra, ba⟩ := cells_bytes hda ub cb ga
  have w7 := hw 7 (by omega)
  have w8' := hw 8 (by omega)
  have w12 := hw 12 (by omega)
  have w13 := hw 13 (by omega)
  have w15 := hw 15 (by omega)
  have b8 : uptoBulk (xs[8]).1 = sid.data.toList.length + 1 := by rw [w8]; simp [uptoBulk]
  simp only [List.cons.injEq, and_true] at e7 e8 e12 e13 e15
  refine ⟨⟨z0, z1, z2, z3, z4, z5, z6, lh, sid.data.toList, z9, z10, z11, ld, lp, z14, la⟩, ⟨sh, sd, sp, sa⟩, ?_, ⟨rh, rd, rp, ra⟩, fun hb => ⟨?_, ?_, ?_, ?_, ?_, ?_, ?_⟩, ?_⟩
  · refine List.ext_getElem? fun i => ?_
    have e8' : cs[8] = S sid.data.toList := e8
    match i with
    | 0 => rw [List.getElem?_eq_getElem (by omega), e0]; rfl
    | 1 => rw [List.getElem?_eq_getElem (by omega), e1]; rfl
    | 2 => rw [List.getElem?_eq_getElem (by omega), e2]; rfl
    | 3 => rw [List.getElem?_eq_getElem (by omega), e3]; rfl
    | 4 => rw [List.getElem?_eq_getElem (by omega), e4]; rfl
    | 5 => rw [List.getElem?_eq_getElem (by omega), e5]; rfl
    | 6 => rw [List.getElem?_eq_getElem (by omega), e6]; rfl
    | 7 => rw [List.getElem?_eq_getElem (by omega), e7]; rfl
    | 8 => rw [List.getElem?_eq_getElem (by omega), e8']; rfl
    | 9 => rw [List.getElem?_eq_getElem (by omega), e9]; rfl
    | 10 => rw [List.getElem?_eq_getElem (by omega), e10]; rfl
    | 11 => rw [List.getElem?_eq_getElem (by omega), e11]; rfl
    | 12 => rw [List.getElem?_eq_getElem (by omega), e12]; rfl
    | 13 => rw [List.getElem?_eq_getElem (by omega), e13]; rfl
    | 14 => rw [List.getElem?_eq_getElem (by omega), e14]; rfl
    | 15 => rw [List.getElem?_eq_getElem (by omega), e15]; rfl
    | k + 16 => rw [List.getElem?_eq_none (by omega)]; rfl
  · have := hdN_len lh; simp only at *; omega
  · have := hdN_w lh; simp only at *; omega
  · intro j hj; have := hdN_each lh j hj; simp only at *; omega
  · simp only at *; omega
  · simp only at *; omega
  · simp only at *; omega
  · simp only at *; omega
  · simp only at *; omega
end
end Go.Proofs.YtaikdcnifijcoaaGreat
set_option linter.unusedVariables false
set_option linter.unusedSimpArgs false
namespace Go.Proofs.YtaikdcnifijcoaaGreat
open Go Go.Vc Go.ChangeShapes Go.WideShapes Go.ChangeAt Go.RowKit Go.Proofs.YtaikdcnifijcoaaGreat.Rows
section
variable {H : Type} {enc : TypeId × Value → H} {P : Program} {W : World}
/-- A slice of structs, in cells. -/
theorem cells_rows {β : Type} [Inhabited β] {n : Nat} (f : β → List Value) (d : β) (Q : β → DataW H → Prop) {t e : TypeId} {fuel : Nat} {cs : List Value} {x : DataW H × List MemPlace} (ht : P.underlying t = some (.slice e)) (ce : P.cellsOf e = n)
    (hel : ∀ (k : Nat) (us : List Value) (y : DataW H × List MemPlace), DataW.trod enc P W 0 (fun _ => true) true k e us = some y → ∃ b, us = f b ∧ Q b y.1)
    (h : DataW.trod enc P W 0 (fun _ => true) true fuel t cs = some x) :
    ∃ (s : Sl) (l : List β), cs = [s.val] ∧ CRow n f d W.heap s l ∧ (∀ j, j < l.length → ∃ D, Q (l.getD j d) D ∧ uptoBulk D ≤ uptoBulk x.1) ∧ l.length ≤ uptoBulk x.1 ∧ l.length ≤ 9223372036854775807 ∧ (x.1 = .nil ∧ l = [] ∨ ∃ Ds rest, x.1 = .slice Ds rest ∧ Ds.length = l.length ∧ ∀ j, j < l.length → Q (l.getD j d) (Ds.getD j .nil)) := by
  rcases Go.Deep.open_slice ht h with ⟨rfl, rfl⟩ | ⟨a, len, cap, m, k, D, Pl, rfl, _, hl, hm, hmm, rfl, hx⟩
  · exact ⟨Sl.nil, [], rfl, CRow.nil _, fun j hj => absurd hj (by simp), by simp, by simp, .inl ⟨rfl, rfl⟩⟩
  · simp only [if_true] at hmm
    have each : ∀ i, i < len → ∃ b : β, (∀ j v, (f b)[j]? = some v → hcell W.heap ((a.add (i * n)).add j) = some v) ∧ Q b (D i) := fun i hi => by
      obtain ⟨us, g0, g1⟩ := hx i (by omega)
      obtain ⟨b, e1, e2⟩ := hel _ _ _ g1
      rw [ce] at g0
      obtain ⟨_, hlen, hcell⟩ := World.cells?_some g0
      refine ⟨b, fun j v hj => ?_, e2⟩
      subst e1
      have hj' := (List.getElem?_eq_some_iff.1 hj).1
      have := hcell j (by omega)
      rw [← hj]
      exact this
    obtain ⟨q, hq⟩ := Go.Deep.choose_lt each
    have hg : ∀ j, j < len → ((List.range len).map q).getD j d = q j := fun j hj => by simp [List.getD_eq_getElem?_getD, List.getElem?_range, hj]
    have hb : ∀ j, j < len → uptoBulk (D j) ≤ uptoBulkAll ((List.range len).map D) := fun j hj => bulk_part (List.mem_map.2 ⟨j, List.mem_range.2 hj, rfl⟩)
    have hbs := bulk_slice (H := H) ((List.range len).map D) ((List.range (m - len)).map fun j => D (len + j))
    refine ⟨⟨some a, len, cap, fun h => (by cases h), hl⟩, (List.range len).map q, rfl, ⟨by simp, fun j hj i v hv => ?_⟩, fun j hj => ?_, ?_, by simp only [List.length_map, List.length_range]; simp only [maxLen] at hm; omega, .inr ⟨_, _, rfl, by simp, fun j hj => ?_⟩⟩
    · have hj' : j < len := by simpa using hj
      rw [hg j hj'] at hv
      have := (hq j hj').1 i v hv
      rw [Sl.cell_eq]
      simp only [Option.getD_some]
      rwa [← Go.Vc.add_add]
    · have hj' : j < len := by simpa using hj
      rw [hg j hj']
      exact ⟨D j, (hq j hj').2, Nat.le_trans (hb j hj') hbs⟩
    · have := bulk_len ((List.range len).map D)
      simp only [List.length_map, List.length_range] at this ⊢
      exact Nat.le_trans this hbs
    · have hj' : j < len := by simpa using hj
      rw [hg j hj']
      have e : ((List.range len).map D).getD j .nil = D j := by simp [List.getD_eq_getElem?_getD, List.getElem?_range, hj']
      rw [e]
      exact (hq j hj').2
end
end Go.Proofs.YtaikdcnifijcoaaGreat
set_option linter.unusedVariables false
set_option linter.unusedSimpArgs false
namespace Go.Proofs.YtaikdcnifijcoaaGreat
open Go Go.Vc Go.ChangeShapes Go.WideShapes Go.ChangeAt Go.RowKit Go.Proofs.YtaikdcnifijcoaaGreat.Rows
section
variable {H : Type} {enc : TypeId × Value → H} {P : Program} {W : World}
/-- A step, in cells. -/
theorem cells_step {t tb : TypeId} {fs : Array Field} {fuel : Nat} {cs : List Value} {x : DataW H × List MemPlace} (hu : P.underlying t = some (.struct fs)) (hc : P.cellsOf t = 6)
    (hone : ∀ (i : Nat) (f : Field), fs[i]? = some f → f.offset = i ∧ P.cellsOf f.type = 1) (hn : fs.size = 6)
    (hi : ∀ i ∈ [0, 1, 2, 3], (fs[i]?.bind fun f => P.underlying f.type) = some (.int .i64)) (hid : (fs[4]?.bind fun f => P.underlying f.type) = some .string)
    (hda : (fs[5]?.bind fun f => P.underlying f.type) = some (.slice tb)) (ub : P.underlying tb = some (.int .u8)) (cb : P.cellsOf tb = 1)
    (h : DataW.trod enc P W 0 (fun _ => true) true fuel t cs = some x) :
    ∃ (y : StepA) (sd : Sl), cs = stepC y sd ∧ Bytes W.heap sd y.data := by
  obtain ⟨xs, n, _, rfl, hl, hxl, hfld⟩ := DataW.trod_struct hu h
  rw [hc] at hl
  have each : ∀ i (hi16 : i < 6), ∃ f, fs[i]? = some f ∧ DataW.trod enc P W 0 (fun _ => true) true n f.type [cs[i]] = some (xs[i]) := by
    intro i hi16
    have hfi : fs[i]? = some fs[i] := Array.getElem?_eq_getElem (by omega)
    obtain ⟨ho, hc1⟩ := hone i _ hfi
    have g := hfld i _ hfi
    rw [ho, hc1, Go.Deep.take1_drop cs i undef (by omega), List.getElem?_eq_getElem (by omega)] at g
    refine ⟨_, hfi, ?_⟩
    rw [← g]
    simp [List.getD_eq_getElem?_getD, List.getElem?_eq_getElem (show i < cs.length by omega)]
  have int : ∀ i (hi16 : i < 6), i ∈ [0, 1, 2, 3] → ∃ z : Int, cs[i] = IV z := fun i hi16 hm => by
    obtain ⟨f, hf, g⟩ := each i hi16
    have u := hi i hm
    rw [hf] at u
    obtain ⟨z, e1, _, _⟩ := DataW.trod_int u g
    exact ⟨z, by simpa using e1⟩
  obtain ⟨z0, e0⟩ := int 0 (by omega) (by simp)
  obtain ⟨z1, e1⟩ := int 1 (by omega) (by simp)
  obtain ⟨z2, e2⟩ := int 2 (by omega) (by simp)
  obtain ⟨z3, e3⟩ := int 3 (by omega) (by simp)
  obtain ⟨fi, hfi, gi⟩ := each 4 (by omega)
  rw [hfi] at hid
  obtain ⟨sid, e4, w4, _⟩ := DataW.trod_string hid gi
  obtain ⟨fa, hfa, ga⟩ := each 5 (by omega)
  rw [hfa] at hda
  obtain ⟨sa, la, e5, ra, ba⟩ := cells_bytes hda ub cb ga
  simp only [List.cons.injEq, and_true] at e4 e5
  refine ⟨⟨z0, z1, z2, z3, sid.data.toList, la⟩, sa, ?_, ra⟩
  refine List.ext_getElem? fun i => ?_
  have e4' : cs[4] = S sid.data.toList := e4
  match i with
  | 0 => rw [List.getElem?_eq_getElem (by omega), e0]; rfl
  | 1 => rw [List.getElem?_eq_getElem (by omega), e1]; rfl
  | 2 => rw [List.getElem?_eq_getElem (by omega), e2]; rfl
  | 3 => rw [List.getElem?_eq_getElem (by omega), e3]; rfl
  | 4 => rw [List.getElem?_eq_getElem (by omega), e4']; rfl
  | 5 => rw [List.getElem?_eq_getElem (by omega), e5]; rfl
  | k + 6 => rw [List.getElem?_eq_none (by omega)]; rfl
end
end Go.Proofs.YtaikdcnifijcoaaGreat
set_option linter.unusedVariables false
set_option linter.unusedSimpArgs false
namespace Go.Proofs.YtaikdcnifijcoaaGreat
open Go Go.Vc Go.ChangeShapes Go.WideShapes Go.ChangeAt Go.RowKit Go.Proofs.YtaikdcnifijcoaaGreat.Rows
section
variable {H : Type} {enc : TypeId × Value → H} {P : Program} {W : World}
theorem parts24 {cs : List Value} (h : cs.length = 24) : cs = (cs.drop 0).take 1 ++ (cs.drop 1).take 1 ++ ((cs.drop 2).take 6 ++ (cs.drop 8).take 16) := by
  have e3 : (cs.drop 8).take 16 = cs.drop 8 := List.take_of_length_le (by rw [List.length_drop]; omega)
  have e2 : (cs.drop 2).take 6 ++ cs.drop 8 = cs.drop 2 := by
    have := List.take_append_drop 6 (cs.drop 2)
    rwa [List.drop_drop] at this
  have e1 : (cs.drop 1).take 1 ++ cs.drop 2 = cs.drop 1 := by
    have := List.take_append_drop 1 (cs.drop 1)
    rwa [List.drop_drop] at this
  rw [e3, e2, List.append_assoc, e1, List.drop_zero]
  exact (List.take_append_drop 1 cs).symm
/-- A step of a script, in cells. -/
theorem cells_op {t : TypeId} {fs : Array Field} {f0 f1 f2 f3 : Field} {fuel : Nat} {cs : List Value} {x : DataW H × List MemPlace} (hu : P.underlying t = some (.struct fs)) (hc : P.cellsOf t = 24)
    (e0 : fs[0]? = some f0) (e1 : fs[1]? = some f1) (e2 : fs[2]? = some f2) (e3 : fs[3]? = some f3) (o0 : f0.offset = 0) (o1 : f1.offset = 1) (o2 : f2.offset = 2) (o3 : f3.offset = 8)
    (c0 : P.cellsOf f0.type = 1) (c1 : P.cellsOf f1.type = 1) (c2 : P.cellsOf f2.type = 6) (c3 : P.cellsOf f3.type = 16) (u0 : P.underlying f0.type = some (.int .i64)) (u1 : P.underlying f1.type = some (.int .i64))
    (hs : ∀ (n : Nat) (us : List Value) (y : DataW H × List MemPlace), DataW.trod enc P W 0 (fun _ => true) true n f2.type us = some y → ∃ (z : StepA) (sd : Sl), us = stepC z sd ∧ Bytes W.heap sd z.data)
    (hm : ∀ (n : Nat) (us : List Value) (y : DataW H × List MemPlace), DataW.trod enc P W 0 (fun _ => true) true n f3.type us = some y → ∃ (m : MsgA) (s : MsgS), us = msgC m s ∧ MsgIn W.heap m s ∧ (uptoBulk y.1 ≤ 1048576 → MsgFit m) ∧ m.data.length ≤ uptoBulk y.1)
    (h : DataW.trod enc P W 0 (fun _ => true) true fuel t cs = some x) :
    ∃ p : OpP, cs = opPC p ∧ MsgIn W.heap p.1.m p.2.ms ∧ Bytes W.heap p.2.xd p.1.x.data ∧ (uptoBulk x.1 ≤ 1048576 → MsgFit p.1.m) := by
  obtain ⟨xs, n, _, rfl, hl, hxl, hfld⟩ := DataW.trod_struct hu h
  rw [hc] at hl
  have lt3 : 3 < fs.size := (Array.getElem?_eq_some_iff.1 e3).1
  have g0 := hfld 0 _ e0
  have g1 := hfld 1 _ e1
  have g2 := hfld 2 _ e2
  have g3 := hfld 3 _ e3
  rw [o0, c0, List.getElem?_eq_getElem (by omega)] at g0
  rw [o1, c1, List.getElem?_eq_getElem (by omega)] at g1
  rw [o2, c2, List.getElem?_eq_getElem (by omega)] at g2
  rw [o3, c3, List.getElem?_eq_getElem (by omega)] at g3
  obtain ⟨z0, d0, _, _⟩ := DataW.trod_int u0 g0
  obtain ⟨z1, d1, _, _⟩ := DataW.trod_int u1 g1
  obtain ⟨z, sd, d2, hb⟩ := hs _ _ _ g2
  obtain ⟨m, ms, d3, hi, hf, _⟩ := hm _ _ _ g3
  refine ⟨(⟨z0, z1, z, m⟩, ⟨sd, ms⟩), ?_, hi, hb, fun hk => hf ?_⟩
  · rw [parts24 hl, d0, d1, d2, d3]
    rfl
  · have := bulk_part (d := (xs[3]'(by omega)).1) (l := xs.map (·.1)) (List.mem_map.2 ⟨_, List.getElem_mem _, rfl⟩)
    simp only [uptoBulk] at hk
    omega
end
end Go.Proofs.YtaikdcnifijcoaaGreat
