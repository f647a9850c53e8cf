/-
  From walks to rows: arguments opened, a law's answer shut.
-/
import Derived.Test.YtaikdcnifijcoaaVcRun
import Derived.Test.YtaikdcnifijcoaaRows
import Derived.ProofKit
import Derived.SizedLaws
import Derived.Deep.Matrix
import Derived.Test.YtaikdcnifijcoaaVcMem
import Derived.Deep.Grids
import Derived.Deep.Fields
import Derived.Test.YtaikdcnifijcoaaVcCore
import Derived.Test.YtaikdcnifijcoaaVcShelf
import Derived.Test.YtaikdcnifijcoaaVcInt
set_option linter.unusedVariables false
set_option linter.unusedSimpArgs false
namespace Go.Vc
open Go.ChangeShapes Go.WideShapes Go.ChangeAt Go.RowKit
theorem Ext.below {w w' : World} (s : Sim w w') (e : Ext w.heap w'.heap) : Below w.heap.size w w' := ⟨s.os, s.tape, s.output, e.size, fun k hk => e.get k hk⟩
theorem trodAll_below {H : Type} {enc : TypeId × Value → H} {P : Program} (hl : laidOutB P = true) {W W' : World} (hb : Below W.heap.size W W') :
    ∀ {ts : List TypeId} {vs : List Value} {ds : List (DataW H)} {ps : List MemPlace}, (∀ t ∈ ts, P.readableRec t = true ∧ t < P.types.size) → DataW.TrodAll enc P W 0 (fun _ => true) true ts vs ds ps → (∀ x ∈ ps, x.block < W.heap.size) →
      DataW.TrodAll enc P W' 0 (fun b => decide (b < W.heap.size)) true ts vs ds ps
  | [], [], [], _, _, h, _ => h
  | t :: ts, v :: vs, d :: ds, ps, ht, ⟨p, q, h1, h2, e⟩, hlt => by
    subst e
    exact ⟨p, q, Below.trod hl (ht t List.mem_cons_self).1 (ht t List.mem_cons_self).2 h1 hb fun x hx => hlt x (List.mem_append_left _ hx),
      trodAll_below hl hb (fun u hu => ht u (List.mem_cons_of_mem _ hu)) h2 fun x hx => hlt x (List.mem_append_right _ hx), rfl⟩
/-- A slice of bytes that came in. -/
theorem open_bytes {H : Type} {enc : TypeId × Value → H} {P : Program} {W : World} {base t e : Nat} {v : Value} {d : DataW H} {ps : List MemPlace} (ht : P.underlying t = some (.slice e)) (he : P.underlying e = some (.int .u8)) (hc : P.cellsOf e = 1) (hbt : P.bytesOf e = 1)
    (hv : Value.okWide P W .any base t v) (h : DataW.Trod enc P W 0 (fun _ => true) true t v d ps)
    {ts : List TypeId} {ds : List (DataW H)} (hsz : (DataW.weightsEach P ts ds).all (· ≤ reachBytes) = true) {j : Nat} (hj : ts[j]? = some t) (hd : ds[j]? = some d) :
    ∃ (s : Sl) (l : List UInt8), v = s.val ∧ Bytes W.heap s l ∧ l.length ≤ 140737488351232 := by
  obtain ⟨a0, len, cap, rfl⟩ := okWide_slice ht hv
  obtain ⟨fuel, hf⟩ := h
  rcases open_ints ht he hc hf with ⟨hcs, hx⟩ | ⟨a, len', cap', zs, hcs, _, hl, hm, hz, hx, hcell, hwz⟩
  · simp [Value.cells] at hcs
    obtain ⟨rfl, rfl, rfl⟩ := hcs
    exact ⟨Sl.nil, [], rfl, Bytes.nil _, by simp⟩
  · simp [Value.cells] at hcs
    obtain ⟨rfl, rfl, rfl⟩ := hcs
    simp only [Prod.mk.injEq] at hx
    obtain ⟨rfl, rfl⟩ := hx
    simp only [if_true] at hz
    have hreach : cap ≤ 140737488351232 := by
      have := sized_slice hsz (j := j) (t := t) (e := e) hj hd ht
      rw [hbt] at this
      simp only [lits, List.length_map, List.length_take, List.length_drop, reachBytes] at this
      omega
    refine ⟨⟨some a, len, cap, fun h => (by cases h), hl⟩, (zs.take len).map fun n => UInt8.ofNat n.toNat, rfl, ⟨by simp; omega, fun k hk => ?_⟩, by simp; omega⟩
    have hk1 : k < len := by simp at hk; omega
    have hkz : k < zs.length := by simp at hk; omega
    have h1 := hcell k hkz
    rw [Sl.cell_eq]
    simp only [Option.getD_some]
    have hn : zs.getD k 0 = zs[k] := by simp [List.getD_eq_getElem?_getD, List.getElem?_eq_getElem hkz]
    have hw := hwz zs[k] (List.getElem_mem hkz)
    have hw' : 0 ≤ zs[k] ∧ zs[k] < 256 := by
      simp [Lit.wf, IntKind.min, IntKind.max, IntKind.signed, IntKind.bits] at hw
      omega
    have hg : ((zs.take len).map fun n => UInt8.ofNat n.toNat).getD k 0 = UInt8.ofNat zs[k].toNat := by
      simp [List.getD_eq_getElem?_getD, List.getElem?_take, hk1, List.getElem?_eq_getElem hkz]
    rw [hg]
    refine (show Go.Vc.hcell W.heap (a.add k) = _ from h1).trans ?_
    rw [hn, B8]
    congr 2
    simp [UInt8.toNat_ofNat']
    omega
/-- A slice of slices of bytes that came in. -/
theorem open_brows {H : Type} {enc : TypeId × Value → H} {P : Program} {W : World} {t e q : TypeId} {v : Value} {d : DataW H} {ps : List MemPlace} (ht : P.underlying t = some (.slice e)) (he : P.underlying e = some (.slice q)) (hq : P.underlying q = some (.int .u8)) (ce : P.cellsOf e = 1) (cq : P.cellsOf q = 1)
    (hv : ∃ a0 len cap, v = .slice a0 len cap) (h : DataW.Trod enc P W 0 (fun _ => true) true t v d ps) :
    ∃ (s : Sl) (ss : List Sl) (ls : List (List UInt8)), v = s.val ∧ BRows W.heap s ss ls ∧ ls.length ≤ 9223372036854775807 := by
  obtain ⟨a0, len, cap, rfl⟩ := hv
  obtain ⟨fuel, hf⟩ := h
  rcases Go.Deep.open_int_rows ht he hq ce cq hf with ⟨hcs, hx⟩ | ⟨a, len', cap', A, L, C, Z, hcs, _, hl, hm, hx, hr⟩
  · simp [Value.cells] at hcs
    obtain ⟨rfl, rfl, rfl⟩ := hcs
    exact ⟨Sl.nil, [], [], rfl, ⟨RowF.nil _, rfl, fun k hk => absurd hk (by simp)⟩, by simp⟩
  · simp [Value.cells] at hcs
    obtain ⟨rfl, rfl, rfl⟩ := hcs
    have hok : ∀ r, r < len → (A r = none → L r = 0 ∧ C r = 0) ∧ L r ≤ C r := fun r hrr => by
      obtain ⟨_, h2, h3, h4, h5, h6, h7⟩ := hr r (by omega)
      exact ⟨fun hn => ⟨by have := h6 hn; omega, h6 hn⟩, h2⟩
    let sl : Nat → Sl := fun r => if h : (A r = none → L r = 0 ∧ C r = 0) ∧ L r ≤ C r then ⟨A r, L r, C r, h.1, h.2⟩ else Sl.nil
    let by' : Nat → List UInt8 := fun r => ((Z r).take (L r)).map fun n => UInt8.ofNat n.toNat
    have hg : ∀ {β : Type} (f : Nat → β) (d : β) (k : Nat), k < len → ((List.range len).map f).getD k d = f k := fun f d k hk => by
      simp [List.getD_eq_getElem?_getD, List.getElem?_range, hk]
    refine ⟨⟨some a, len, cap, fun h => (by cases h), hl⟩, (List.range len).map sl, (List.range len).map by', rfl, ⟨⟨by simp, fun k hk => ?_⟩, by simp, fun k hk => ?_⟩, ?_⟩
    · have hk' : k < len := by simpa using hk
      obtain ⟨h1, _⟩ := hr k (by omega)
      rw [hg _ _ _ hk', Sl.cell_eq]
      simp only [Option.getD_some]
      refine (show Go.Vc.hcell W.heap (a.add k) = _ from h1).trans ?_
      have hs : sl k = ⟨A k, L k, C k, (hok k hk').1, (hok k hk').2⟩ := dif_pos (hok k hk')
      rw [hs]
      rfl
    · have hk' : k < len := by simpa using hk
      obtain ⟨_, h2, h3, h4, h5, h6, h7⟩ := hr k (by omega)
      rw [hg _ _ _ hk', hg _ _ _ hk']
      have hs : (sl k).ao = A k ∧ (sl k).len = L k := by simp only [sl]; rw [dif_pos (hok k hk')]; exact ⟨rfl, rfl⟩
      refine ⟨by rw [hs.2]; simp [by']; omega, fun j hj => ?_⟩
      have hj' : j < L k := by simp [by'] at hj; omega
      have hjz : j < (Z k).length := by omega
      rw [Sl.cell_eq, hs.1]
      cases hA : A k with
      | none => have := h6 hA; omega
      | some a' =>
        have h8 := (h7 a' hA).2 j (by omega)
        refine (show Go.Vc.hcell W.heap (a'.add j) = _ from h8).trans ?_
        have hn : (Z k).getD j 0 = (Z k)[j] := by simp [List.getD_eq_getElem?_getD, List.getElem?_eq_getElem hjz]
        have hw := h5 (Z k)[j] (List.getElem_mem hjz)
        have hw' : 0 ≤ (Z k)[j] ∧ (Z k)[j] < 256 := by
          simp [Lit.wf, IntKind.min, IntKind.max, IntKind.signed, IntKind.bits] at hw
          omega
        have hgd : (by' k).getD j 0 = UInt8.ofNat (Z k)[j].toNat := by
          simp [by', List.getD_eq_getElem?_getD, List.getElem?_take, hj', List.getElem?_eq_getElem hjz]
        rw [hgd, hn, B8]
        congr 2
        simp [UInt8.toNat_ofNat']
        omega
    · simp [maxLen] at hm ⊢
      omega
/-- A whole number that came in. -/
theorem int_of {n : Int} (h : (Lit.int .i64 n).wf = true) : -9223372036854775808 ≤ n ∧ n ≤ 9223372036854775807 := by
  simp [Lit.wf, IntKind.min, IntKind.max, IntKind.signed, IntKind.bits] at h
  omega
/-- What a law owes at its return. -/
theorem law_post {H : Type} {enc : TypeId × Value → H} {P : Program} {f : Func} {s : ChangeSpec} {W W' : World} {args : Array Value} {ds gs : List (DataW H)} {before : List MemPlace} {p : List MemPlace} {b : Nat}
    (hl : laidOutB P = true) (hread : ∀ t ∈ f.params.toList, P.readableRec t = true ∧ t < P.types.size) (hbool : P.underlying b = some .bool) (hrt : f.resultTypes = #[b])
    (hW : DataW.Whole enc P f.params.toList s.vars false W args.toList ds gs before) (hA : DataW.TrodAll enc P W 0 (fun _ => true) true f.params.toList args.toList ds p) (hbp : before = p ++ [])
    (hnx : Below W.heap.size W W') (hr : (s.fn H (ds ++ gs)).results = [.lit (.bool true)]) (ha : (s.fn H (ds ++ gs)).args = ds) (hv : (s.fn H (ds ++ gs)).vars = []) (hsv : s.vars = []) :
    s.post enc P f false true false false W args (.bool true) W' := by
  subst hbp
  have hlt : ∀ x ∈ p, x.block < W.heap.size := fun x hx => by simpa using hW.lt x (List.mem_append_left _ hx)
  refine ⟨_, _, _, [], p ++ [], [], hW, ?_, ?_, ?_, hnx.frame _, fun h => by cases h⟩
  · rw [hr, hrt]
    exact trodAll_mk1 (shut_bool hbool true)
  · rw [ha, List.append_nil]
    exact trodAll_below hl hnx hread hA hlt
  · rw [hv, hsv]; rfl
/-- A byte that came in. -/
theorem byte_of {n : Int} (h : (Lit.int .u8 n).wf = true) : ∃ x : UInt8, n = (x.toNat : Int) := by
  have hw : 0 ≤ n ∧ n < 256 := by
    simp [Lit.wf, IntKind.min, IntKind.max, IntKind.signed, IntKind.bits] at h
    omega
  refine ⟨UInt8.ofNat n.toNat, ?_⟩
  simp [UInt8.toNat_ofNat']
  omega
end Go.Vc
set_option linter.unusedVariables false
set_option linter.unusedSimpArgs false
namespace Go.Vc
open Go.ChangeShapes Go.WideShapes Go.ChangeAt Go.RowKit
theorem trodAll_five {H : Type} {enc : TypeId × Value → H} {P : Program} {w : World} {base : Nat} {spare : Nat → Bool} {held : Bool} {t t' t'' t3 t4 : TypeId} {args : Array Value} {ds : List (DataW H)} {ps : List MemPlace} (h : DataW.TrodAll enc P w base spare held [t, t', t'', t3, t4] args.toList ds ps) :
    ∃ v v' v'' v3 v4 d d' d'' d3 d4 p p' p'' p3 p4, args = #[v, v', v'', v3, v4] ∧ ds = [d, d', d'', d3, d4] ∧ ps = p ++ (p' ++ (p'' ++ (p3 ++ p4))) ∧ DataW.Trod enc P w base spare held t v d p ∧ DataW.Trod enc P w base spare held t' v' d' p' ∧ DataW.Trod enc P w base spare held t'' v'' d'' p'' ∧ DataW.Trod enc P w base spare held t3 v3 d3 p3 ∧ DataW.Trod enc P w base spare held t4 v4 d4 p4 := by
  obtain ⟨v, vs, d, ds', p, q, hargs, rfl, rfl, hd, hrest⟩ := trodAll_cons h
  obtain ⟨v', vs', d', ds'', p', q', rfl, rfl, rfl, hd', hrest'⟩ := trodAll_cons hrest
  obtain ⟨v'', vs'', d'', ds3, p'', q'', rfl, rfl, rfl, hd'', hrest''⟩ := trodAll_cons hrest'
  obtain ⟨v3, vs3, d3, ds4, p3, q3, rfl, rfl, rfl, hd3, hrest3⟩ := trodAll_cons hrest''
  obtain ⟨v4, vs4, d4, ds5, p4, q4, rfl, rfl, rfl, hd4, hrest4⟩ := trodAll_cons hrest3
  obtain ⟨rfl, rfl, rfl⟩ := trodAll_nil hrest4
  exact ⟨v, v', v'', v3, v4, d, d', d'', d3, d4, p, p', p'', p3, p4, by cases args; simp_all, rfl, by simp, hd, hd', hd'', hd3, hd4⟩
end Go.Vc
set_option linter.unusedVariables false
set_option linter.unusedSimpArgs false
namespace Go.Vc
open Go.ChangeShapes Go.WideShapes Go.ChangeAt Go.RowKit Go.Proofs.Ytaikdcnifijcoaa
/-- Five numbers that came in, as a struct. -/
theorem open_five {H : Type} {enc : TypeId × Value → H} {P : Program} {W : World} {r : Reach} {base t : Nat} {v : Value} {d : DataW H} {ps : List MemPlace} {fs : Array Field} (hu : P.underlying t = some (.struct fs)) (hc : P.cellsOf t = 5)
    (hone : ∀ (i : Nat) (f : Field), fs[i]? = some f → f.offset = i ∧ P.cellsOf f.type = 1) (hn : fs.size = 5) (hi : ∀ (i : Nat) (f : Field), fs[i]? = some f → P.underlying f.type = some (.int .i64))
    (hv : Value.okWide P W r base t v) (h : DataW.Trod enc P W 0 (fun _ => true) true t v d ps) :
    ∃ N T K E R : Int, v = .agg #[.int .i64 N, .int .i64 T, .int .i64 K, .int .i64 E, .int .i64 R] ∧ ∀ x ∈ [N, T, K, E, R], -9223372036854775808 ≤ x ∧ x ≤ 9223372036854775807 := by
  simp only [Value.okWide, hu] at hv
  obtain ⟨cs, rfl, hsz, _⟩ := hv
  obtain ⟨fuel, hf⟩ := h
  obtain ⟨xs, n, _, _, hl, hxl, hfld⟩ := DataW.trod_struct hu hf
  rw [hc] at hsz
  have each : ∀ i, i < 5 → ∃ z : Int, cs.toList[i]? = some (.int .i64 z) ∧ -9223372036854775808 ≤ z ∧ z ≤ 9223372036854775807 := by
    intro i hi5
    have hfi : fs[i]? = some fs[i] := Array.getElem?_eq_getElem (by omega)
    obtain ⟨ho, hc1⟩ := hone i _ hfi
    have g := hfld i _ hfi
    have hcl : (Value.agg cs).cells.toList = cs.toList := rfl
    have hlen : cs.toList.length = 5 := by simpa using hsz
    rw [ho, hc1, hcl, Go.Deep.take1_drop cs.toList i undef (by omega), List.getElem?_eq_getElem (by omega)] at g
    obtain ⟨z, e1, e2, e3⟩ := DataW.trod_int (hi i _ hfi) g
    simp only [List.cons.injEq, and_true] at e1
    refine ⟨z, ?_, int_of e3⟩
    rw [← e1]
    simp [List.getD_eq_getElem?_getD, List.getElem?_eq_getElem (show i < cs.toList.length by omega)]
  obtain ⟨N, a0, b0⟩ := each 0 (by omega)
  obtain ⟨T, a1, b1⟩ := each 1 (by omega)
  obtain ⟨K, a2, b2⟩ := each 2 (by omega)
  obtain ⟨E, a3, b3⟩ := each 3 (by omega)
  obtain ⟨R, a4, b4⟩ := each 4 (by omega)
  refine ⟨N, T, K, E, R, ?_, fun x hx => ?_⟩
  · congr 1
    apply Array.ext'
    have hlen : cs.toList.length = 5 := by simpa using hsz
    refine List.ext_getElem? fun i => ?_
    match i with
    | 0 => rw [a0]; rfl
    | 1 => rw [a1]; rfl
    | 2 => rw [a2]; rfl
    | 3 => rw [a3]; rfl
    | 4 => rw [a4]; rfl
    | n + 5 => rw [List.getElem?_eq_none (by omega)]; rfl
  · simp only [List.mem_cons, List.not_mem_nil, or_false] at hx
    rcases hx with rfl | rfl | rfl | rfl | rfl <;> assumption
/-- A slice of numbers that came in. -/
theorem open_numbers {H : Type} {enc : TypeId × Value → H} {P : Program} {W : World} {base t e : Nat} {v : Value} {d : DataW H} {ps : List MemPlace} (ht : P.underlying t = some (.slice e)) (he : P.underlying e = some (.int .i64)) (hc : P.cellsOf e = 1) (hbt : P.bytesOf e = 8)
    (hv : Value.okWide P W .any base t v) (h : DataW.Trod enc P W 0 (fun _ => true) true t v d ps)
    {ts : List TypeId} {ds : List (DataW H)} (hsz : (DataW.weightsEach P ts ds).all (· ≤ reachBytes) = true) {j : Nat} (hj : ts[j]? = some t) (hd : ds[j]? = some d) :
    ∃ (s : Sl) (l : List Int), v = s.val ∧ RowF IV 0 W.heap s l ∧ l.length * 8 ≤ 140737488351232 := by
  obtain ⟨a0, len, cap, rfl⟩ := okWide_slice ht hv
  obtain ⟨fuel, hf⟩ := h
  rcases open_ints ht he hc hf with ⟨hcs, hx⟩ | ⟨a, len', cap', zs, hcs, _, hl, hm, hz, hx, hcell, hwz⟩
  · simp [Value.cells] at hcs
    obtain ⟨rfl, rfl, rfl⟩ := hcs
    exact ⟨Sl.nil, [], rfl, RowF.nil _, by simp⟩
  · simp [Value.cells] at hcs
    obtain ⟨rfl, rfl, rfl⟩ := hcs
    simp only [Prod.mk.injEq] at hx
    obtain ⟨rfl, rfl⟩ := hx
    simp only [if_true] at hz
    have hreach : cap * 8 ≤ 140737488351232 := by
      have := sized_slice hsz (j := j) (t := t) (e := e) hj hd ht
      rw [hbt] at this
      simp only [lits, List.length_map, List.length_take, List.length_drop, reachBytes] at this
      omega
    refine ⟨⟨some a, len, cap, fun h => (by cases h), hl⟩, zs.take len, rfl, ⟨by simp; omega, fun k hk => ?_⟩, by simp; omega⟩
    have hk1 : k < len := by simp at hk; omega
    have hkz : k < zs.length := by omega
    have h1 := hcell k hkz
    rw [Sl.cell_eq]
    simp only [Option.getD_some]
    have hg : (zs.take len).getD k 0 = zs.getD k 0 := by
      simp [List.getD_eq_getElem?_getD, List.getElem?_take, hk1]
    rw [hg]
    exact h1
/-- A slice of truths that came in. -/
theorem open_truths {H : Type} {enc : TypeId × Value → H} {P : Program} {W : World} {base t e : Nat} {v : Value} {d : DataW H} {ps : List MemPlace} (ht : P.underlying t = some (.slice e)) (he : P.underlying e = some .bool) (hc : P.cellsOf e = 1)
    (hv : Value.okWide P W .any base t v) (h : DataW.Trod enc P W 0 (fun _ => true) true t v d ps) :
    ∃ (s : Sl) (l : List Bool), v = s.val ∧ RowF Value.bool false W.heap s l ∧ l.length ≤ 9223372036854775807 := by
  obtain ⟨a0, len, cap, rfl⟩ := okWide_slice ht hv
  obtain ⟨fuel, hf⟩ := h
  rcases Go.Deep.open_bools ht he hc hf with ⟨hcs, hx⟩ | ⟨a, len', cap', B, hcs, _, hl, hm, hx, hcell⟩
  · simp [Value.cells] at hcs
    obtain ⟨rfl, rfl, rfl⟩ := hcs
    exact ⟨Sl.nil, [], rfl, RowF.nil _, by simp⟩
  · simp [Value.cells] at hcs
    obtain ⟨rfl, rfl, rfl⟩ := hcs
    refine ⟨⟨some a, len, cap, fun h => (by cases h), hl⟩, (List.range len).map B, rfl, ⟨by simp, fun k hk => ?_⟩, by simp [maxLen] at hm ⊢; omega⟩
    have hk1 : k < len := by simpa using hk
    have h1 := hcell k (by omega)
    rw [Sl.cell_eq]
    simp only [Option.getD_some]
    have hg : ((List.range len).map B).getD k false = B k := by
      simp [List.getD_eq_getElem?_getD, List.getElem?_range, hk1]
    rw [hg]
    exact h1
/-- A slice of slices of bytes that came in, whose weight is bounded. -/
theorem open_brows8 {H : Type} {enc : TypeId × Value → H} {P : Program} {W : World} {t e q : TypeId} {v : Value} {d : DataW H} {ps : List MemPlace} (ht : P.underlying t = some (.slice e)) (he : P.underlying e = some (.slice q)) (hq : P.underlying q = some (.int .u8)) (ce : P.cellsOf e = 1) (cq : P.cellsOf q = 1) (hbt : P.bytesOf e = 24)
    (hv : ∃ a0 len cap, v = .slice a0 len cap) (h : DataW.Trod enc P W 0 (fun _ => true) true t v d ps)
    {ts : List TypeId} {ds : List (DataW H)} (hsz : (DataW.weightsEach P ts ds).all (· ≤ reachBytes) = true) {j : Nat} (hj : ts[j]? = some t) (hd : ds[j]? = some d) :
    ∃ (s : Sl) (ss : List Sl) (ls : List (List UInt8)), v = s.val ∧ BRows W.heap s ss ls ∧ ls.length * 24 ≤ 140737488351232 := by
  have hlen : ∀ a0 len cap, v = .slice a0 len cap → len * 24 ≤ 140737488351232 := by
    rintro a0 len cap rfl
    obtain ⟨fuel, hf⟩ := h
    rcases Go.Deep.open_int_rows ht he hq ce cq hf with ⟨hcs, hx⟩ | ⟨a, len', cap', A, L, C, Z, hcs, _, hl, hm, hx, hr⟩
    · simp [Value.cells] at hcs
      obtain ⟨rfl, rfl, rfl⟩ := hcs
      simp
    · simp [Value.cells] at hcs
      obtain ⟨rfl, rfl, rfl⟩ := hcs
      simp only [Prod.mk.injEq] at hx
      obtain ⟨rfl, _⟩ := hx
      have := sized_slice hsz (j := j) (t := t) (e := e) hj hd ht
      rw [hbt] at this
      simp only [List.length_map, List.length_range, reachBytes] at this
      omega
  obtain ⟨s, ss, ls, rfl, hb, _⟩ := open_brows ht he hq ce cq hv h
  refine ⟨s, ss, ls, rfl, hb, ?_⟩
  have := hlen _ _ _ rfl
  have h1 := hb.row.len
  have h2 := hb.len
  omega
end Go.Vc
