/-
  From walks to rows: arguments opened, a law's answer shut.
-/
import Derived.Test.YtccgbgjhjpllcaaVcEff
import Derived.Test.YtccgbgjhjpllcaaRows
import Derived.ProofKit
import Derived.SizedLaws
import Derived.Deep.Matrix
import Derived.Test.YtccgbgjhjpllcaaVcMore
set_option linter.unusedVariables false
set_option linter.unusedSimpArgs false
namespace Go.Vc
open Go.ChangeShapes Go.WideShapes Go.ChangeAt Go.RowKit
theorem Ext.below {w w' : World} (s : Sim w w') (e : Ext w.heap w'.heap) : Below w.heap.size w w' := ⟨s.os, s.tape, s.output, e.size, fun k hk => e.get k hk⟩
theorem trodAll_below {H : Type} {enc : TypeId × Value → H} {P : Program} (hl : laidOutB P = true) {W W' : World} (hb : Below W.heap.size W W') :
    ∀ {ts : List TypeId} {vs : List Value} {ds : List (DataW H)} {ps : List MemPlace}, (∀ t ∈ ts, P.readableRec t = true ∧ t < P.types.size) → DataW.TrodAll enc P W 0 (fun _ => true) true ts vs ds ps → (∀ x ∈ ps, x.block < W.heap.size) →
      DataW.TrodAll enc P W' 0 (fun b => decide (b < W.heap.size)) true ts vs ds ps
  | [], [], [], _, _, h, _ => h
  | t :: ts, v :: vs, d :: ds, ps, ht, ⟨p, q, h1, h2, e⟩, hlt => by
    subst e
    exact ⟨p, q, Below.trod hl (ht t List.mem_cons_self).1 (ht t List.mem_cons_self).2 h1 hb fun x hx => hlt x (List.mem_append_left _ hx),
      trodAll_below hl hb (fun u hu => ht u (List.mem_cons_of_mem _ hu)) h2 fun x hx => hlt x (List.mem_append_right _ hx), rfl⟩
/-- A slice of bytes that came in. -/
theorem open_bytes {H : Type} {enc : TypeId × Value → H} {P : Program} {W : World} {base t e : Nat} {v : Value} {d : DataW H} {ps : List MemPlace} (ht : P.underlying t = some (.slice e)) (he : P.underlying e = some (.int .u8)) (hc : P.cellsOf e = 1) (hbt : P.bytesOf e = 1)
    (hv : Value.okWide P W .any base t v) (h : DataW.Trod enc P W 0 (fun _ => true) true t v d ps)
    {ts : List TypeId} {ds : List (DataW H)} (hsz : (DataW.weightsEach P ts ds).all (· ≤ reachBytes) = true) {j : Nat} (hj : ts[j]? = some t) (hd : ds[j]? = some d) :
    ∃ (s : Sl) (l : List UInt8), v = s.val ∧ Bytes W.heap s l ∧ l.length ≤ 140737488351232 := by
  obtain ⟨a0, len, cap, rfl⟩ := okWide_slice ht hv
  obtain ⟨fuel, hf⟩ := h
  rcases open_ints ht he hc hf with ⟨hcs, hx⟩ | ⟨a, len', cap', zs, hcs, _, hl, hm, hz, hx, hcell, hwz⟩
  · simp [Value.cells] at hcs
    obtain ⟨rfl, rfl, rfl⟩ := hcs
    exact ⟨Sl.nil, [], rfl, Bytes.nil _, by simp⟩
  · simp [Value.cells] at hcs
    obtain ⟨rfl, rfl, rfl⟩ := hcs
    simp only [Prod.mk.injEq] at hx
    obtain ⟨rfl, rfl⟩ := hx
    simp only [if_true] at hz
    have hreach : cap ≤ 140737488351232 := by
      have := sized_slice hsz (j := j) (t := t) (e := e) hj hd ht
      rw [hbt] at this
      simp only [lits, List.length_map, List.length_take, List.length_drop, reachBytes] at this
      omega
    refine ⟨⟨some a, len, cap, fun h => (by cases h), hl⟩, (zs.take len).map fun n => UInt8.ofNat n.toNat, rfl, ⟨by simp; omega, fun k hk => ?_⟩, by simp; omega⟩
    have hk1 : k < len := by simp at hk; omega
    have hkz : k < zs.length := by simp at hk; omega
    have h1 := hcell k hkz
    rw [Sl.cell_eq]
    simp only [Option.getD_some]
    have hn : zs.getD k 0 = zs[k] := by simp [List.getD_eq_getElem?_getD, List.getElem?_eq_getElem hkz]
    have hw := hwz zs[k] (List.getElem_mem hkz)
    have hw' : 0 ≤ zs[k] ∧ zs[k] < 256 := by
      simp [Lit.wf, IntKind.min, IntKind.max, IntKind.signed, IntKind.bits] at hw
      omega
    have hg : ((zs.take len).map fun n => UInt8.ofNat n.toNat).getD k 0 = UInt8.ofNat zs[k].toNat := by
      simp [List.getD_eq_getElem?_getD, List.getElem?_take, hk1, List.getElem?_eq_getElem hkz]
    rw [hg]
    refine (show Go.Vc.hcell W.heap (a.add k) = _ from h1).trans ?_
    rw [hn, B8]
    congr 2
    simp [UInt8.toNat_ofNat']
    omega
/-- A slice of slices of bytes that came in. -/
theorem open_brows {H : Type} {enc : TypeId × Value → H} {P : Program} {W : World} {t e q : TypeId} {v : Value} {d : DataW H} {ps : List MemPlace} (ht : P.underlying t = some (.slice e)) (he : P.underlying e = some (.slice q)) (hq : P.underlying q = some (.int .u8)) (ce : P.cellsOf e = 1) (cq : P.cellsOf q = 1)
    (hv : ∃ a0 len cap, v = .slice a0 len cap) (h : DataW.Trod enc P W 0 (fun _ => true) true t v d ps) :
    ∃ (s : Sl) (ss : List Sl) (ls : List (List UInt8)), v = s.val ∧ BRows W.heap s ss ls ∧ ls.length ≤ 9223372036854775807 := by
  obtain ⟨a0, len, cap, rfl⟩ := hv
  obtain ⟨fuel, hf⟩ := h
  rcases Go.Deep.open_int_rows ht he hq ce cq hf with ⟨hcs, hx⟩ | ⟨a, len', cap', A, L, C, Z, hcs, _, hl, hm, hx, hr⟩
  · simp [Value.cells] at hcs
    obtain ⟨rfl, rfl, rfl⟩ := hcs
    exact ⟨Sl.nil, [], [], rfl, ⟨RowF.nil _, rfl, fun k hk => absurd hk (by simp)⟩, by simp⟩
  · simp [Value.cells] at hcs
    obtain ⟨rfl, rfl, rfl⟩ := hcs
    have hok : ∀ r, r < len → (A r = none → L r = 0 ∧ C r = 0) ∧ L r ≤ C r := fun r hrr => by
      obtain ⟨_, h2, h3, h4, h5, h6, h7⟩ := hr r (by omega)
      exact ⟨fun hn => ⟨by have := h6 hn; omega, h6 hn⟩, h2⟩
    let sl : Nat → Sl := fun r => if h : (A r = none → L r = 0 ∧ C r = 0) ∧ L r ≤ C r then ⟨A r, L r, C r, h.1, h.2⟩ else Sl.nil
    let by' : Nat → List UInt8 := fun r => ((Z r).take (L r)).map fun n => UInt8.ofNat n.toNat
    have hg : ∀ {β : Type} (f : Nat → β) (d : β) (k : Nat), k < len → ((List.range len).map f).getD k d = f k := fun f d k hk => by
      simp [List.getD_eq_getElem?_getD, List.getElem?_range, hk]
    refine ⟨⟨some a, len, cap, fun h => (by cases h), hl⟩, (List.range len).map sl, (List.range len).map by', rfl, ⟨⟨by simp, fun k hk => ?_⟩, by simp, fun k hk => ?_⟩, ?_⟩
    · have hk' : k < len := by simpa using hk
      obtain ⟨h1, _⟩ := hr k (by omega)
      rw [hg _ _ _ hk', Sl.cell_eq]
      simp only [Option.getD_some]
      refine (show Go.Vc.hcell W.heap (a.add k) = _ from h1).trans ?_
      have hs : sl k = ⟨A k, L k, C k, (hok k hk').1, (hok k hk').2⟩ := dif_pos (hok k hk')
      rw [hs]
      rfl
    · have hk' : k < len := by simpa using hk
      obtain ⟨_, h2, h3, h4, h5, h6, h7⟩ := hr k (by omega)
      rw [hg _ _ _ hk', hg _ _ _ hk']
      have hs : (sl k).ao = A k ∧ (sl k).len = L k := by simp only [sl]; rw [dif_pos (hok k hk')]; exact ⟨rfl, rfl⟩
      refine ⟨by rw [hs.2]; simp [by']; omega, fun j hj => ?_⟩
      have hj' : j < L k := by simp [by'] at hj; omega
      have hjz : j < (Z k).length := by omega
      rw [Sl.cell_eq, hs.1]
      cases hA : A k with
      | none => have := h6 hA; omega
      | some a' =>
        have h8 := (h7 a' hA).2 j (by omega)
        refine (show Go.Vc.hcell W.heap (a'.add j) = _ from h8).trans ?_
        have hn : (Z k).getD j 0 = (Z k)[j] := by simp [List.getD_eq_getElem?_getD, List.getElem?_eq_getElem hjz]
        have hw := h5 (Z k)[j] (List.getElem_mem hjz)
        have hw' : 0 ≤ (Z k)[j] ∧ (Z k)[j] < 256 := by
          simp [Lit.wf, IntKind.min, IntKind.max, IntKind.signed, IntKind.bits] at hw
          omega
        have hgd : (by' k).getD j 0 = UInt8.ofNat (Z k)[j].toNat := by
          simp [by', List.getD_eq_getElem?_getD, List.getElem?_take, hj', List.getElem?_eq_getElem hjz]
        rw [hgd, hn, B8]
        congr 2
        simp [UInt8.toNat_ofNat']
        omega
    · simp [maxLen] at hm ⊢
      omega
/-- A whole number that came in. -/
theorem int_of {n : Int} (h : (Lit.int .i64 n).wf = true) : -9223372036854775808 ≤ n ∧ n ≤ 9223372036854775807 := by
  simp [Lit.wf, IntKind.min, IntKind.max, IntKind.signed, IntKind.bits] at h
  omega
/-- What a law owes at its return. -/
theorem law_post {H : Type} {enc : TypeId × Value → H} {P : Program} {f : Func} {s : ChangeSpec} {W W' : World} {args : Array Value} {ds gs : List (DataW H)} {before : List MemPlace} {p : List MemPlace} {b : Nat}
    (hl : laidOutB P = true) (hread : ∀ t ∈ f.params.toList, P.readableRec t = true ∧ t < P.types.size) (hbool : P.underlying b = some .bool) (hrt : f.resultTypes = #[b])
    (hW : DataW.Whole enc P f.params.toList s.vars false W args.toList ds gs before) (hA : DataW.TrodAll enc P W 0 (fun _ => true) true f.params.toList args.toList ds p) (hbp : before = p ++ [])
    (hnx : Below W.heap.size W W') (hr : (s.fn H (ds ++ gs)).results = [.lit (.bool true)]) (ha : (s.fn H (ds ++ gs)).args = ds) (hv : (s.fn H (ds ++ gs)).vars = []) (hsv : s.vars = []) :
    s.post enc P f false true false false W args (.bool true) W' := by
  subst hbp
  have hlt : ∀ x ∈ p, x.block < W.heap.size := fun x hx => by simpa using hW.lt x (List.mem_append_left _ hx)
  refine ⟨_, _, _, [], p ++ [], [], hW, ?_, ?_, ?_, hnx.frame _, fun h => by cases h⟩
  · rw [hr, hrt]
    exact trodAll_mk1 (shut_bool hbool true)
  · rw [ha, List.append_nil]
    exact trodAll_below hl hnx hread hA hlt
  · rw [hv, hsv]; rfl
/-- A byte that came in. -/
theorem byte_of {n : Int} (h : (Lit.int .u8 n).wf = true) : ∃ x : UInt8, n = (x.toNat : Int) := by
  have hw : 0 ≤ n ∧ n < 256 := by
    simp [Lit.wf, IntKind.min, IntKind.max, IntKind.signed, IntKind.bits] at h
    omega
  refine ⟨UInt8.ofNat n.toNat, ?_⟩
  simp [UInt8.toNat_ofNat']
  omega
end Go.Vc
