/-
  The calculus: cuts of rows whose elements have several cells.
-/
import Derived.Test.YtaikdcnifijcoaaGreatQ07
import Derived.Test.YtaikdcnifijcoaaGreatQ04
import Derived.Test.YtaikdcnifijcoaaGreatQ01
import Derived.Sort.OwnSortedInts
import Derived.Test.YtaikdcnifijcoaaGreatQ27
import Derived.Test.YtaikdcnifijcoaaGreatQ11
set_option linter.unusedVariables false
set_option linter.unusedSimpArgs false
namespace Go.Proofs.YtaikdcnifijcoaaGreat
open Go Go.Vc Go.Sort Go.RowKit
theorem callable_of {P : Program} {f : FuncId} {fn : Func} {c : Code} (hf : P.funcs[f]? = some fn) (hb : fn.body = some c) (hname : (fn.name == "runtime.NumGoroutine") = false) : Callable P f := fun xs w => by
  have hne : ¬fn.name = "runtime.NumGoroutine" := by simpa using hname
  simp [callFunc, program, Sem.run, hf, hne, hb]
def sorted (l : List Int) : List Int := l.mergeSort fun x y => decide (x ≤ y)
theorem sorted_length (l : List Int) : (sorted l).length = l.length := by simp [sorted]
theorem sorted_mem (l : List Int) (x : Int) : x ∈ sorted l ↔ x ∈ l := by simp [sorted]
theorem sorted_pair (l : List Int) : (sorted l).Pairwise (· ≤ ·) := by
  have := List.pairwise_mergeSort (le := fun (x y : Int) => decide (x ≤ y)) (fun a b c h1 h2 => by simp at *; omega) (fun a b => by simp; omega) l
  simpa [sorted] using this
theorem sortI_ok (s : Sl) (l : List Int) (base e : Nat) (H : Heap) (hs : OwnF IV H base e s l) (hl : l.length < 4611686018427387904) :
    CallsH Tryz.prog 179 [s.val] H fun v H' => OwnF IV H' base e s (sorted l) ∧ Chg (fun b => s.blk = some b) H H' := by
  refine ⟨callable_of Tryz.func179 rfl rfl, fun w hw => ?_⟩
  subst hw
  obtain ⟨h1, h2⟩ := id hs
  rw [List.length_map, Nat.mul_one] at h1
  rcases h2 with h2 | ⟨g, cur, ha, hb, hh, hlc, hm, hc, ht⟩
  · obtain ⟨h3, h4⟩ := s.ok h2
    have hl0 : l = [] := List.eq_nil_of_length_eq_zero (by omega)
    subst hl0
    have e1 : s.val = .slice s.ao 0 s.cap := by rw [Sl.val, h3]
    show Calls _ _ #[s.val] w _
    rw [e1]
    refine (Tryz.slices_Sort_int_none s.ao s.cap w).mono ?_
    rintro _ _ ⟨rfl, rfl⟩
    exact ⟨_, rfl, Sim.refl _, by simpa [sorted] using hs, Chg.refl _ _⟩
  · have e1 : s.val = .slice (some ⟨g, 0, none⟩) l.length s.cap := by rw [Sl.val, ha, h1]
    rw [Nat.mul_one, ← h1] at ht
    have hH := holds_of_blockI hh ht
    show Calls _ _ #[s.val] w _
    rw [e1]
    refine (Tryz.slices_Sort_int g 0 s.cap l w hH (Array.getElem?_eq_some_iff.1 hh).1 hl).mono ?_
    rintro _ _ ⟨rfl, n, os, rfl⟩
    refine ⟨_, rfl, ⟨rfl, rfl, rfl⟩, ⟨?_, .inr ⟨g, _, ha, hb, heap_sortedI _ hh, hlc, hm, by simp [putCells, hc], ?_⟩⟩, ⟨by simp, fun k hk hne => ?_⟩⟩
    · rw [List.length_map, sorted_length, Nat.mul_one, h1]
    · rw [Nat.mul_one, ← h1, ← sorted_length l]
      exact take_putCellsI cur (sorted l) (by rw [sorted_length]; omega)
    · rw [heap_grow_old _ _ (by simpa using hk)]
      have : g ≠ k := fun e => hne (by simp [Sl.blk, ha, e])
      simp [putRow, mapBlock, Sort.ahead, Array.getElem?_modify, this]
theorem compact_upto (d : Array Int) (hd : ∀ i j, i ≤ j → j < d.size → d[i]! ≤ d[j]!) : ∀ m, m ≤ d.size → (Lib.compactUpTo d m).Pairwise (· < ·) ∧ ∀ x, x ∈ Lib.compactUpTo d m ↔ ∃ j, j < m ∧ d[j]! = x
  | 0, _ => by simp [Lib.compactUpTo]
  | m + 1, hm => by
    obtain ⟨h1, h2⟩ := compact_upto d hd m (by omega)
    rw [Lib.compactUpTo_succ]
    cases hk : Lib.keeps d m with
    | true =>
      rw [if_pos rfl]
      have hk' : m = 0 ∨ d[m]! ≠ d[m - 1]! := by simpa [Lib.keeps] using hk
      refine ⟨List.pairwise_append.2 ⟨h1, by simp, fun a ha b hb => ?_⟩, fun x => ?_⟩
      · simp only [List.mem_singleton] at hb
        subst hb
        obtain ⟨j, hj, rfl⟩ := (h2 a).1 ha
        have h3 := hd j (m - 1) (by omega) (by omega)
        have h4 := hd (m - 1) m (by omega) (by omega)
        rcases hk' with e | e
        · omega
        · omega
      · rw [List.mem_append, h2, List.mem_singleton]
        constructor
        · rintro (⟨j, hj, e⟩ | e)
          · exact ⟨j, by omega, e⟩
          · exact ⟨m, by omega, e.symm⟩
        · rintro ⟨j, hj, e⟩
          by_cases e' : j = m
          · subst e'; exact .inr e.symm
          · exact .inl ⟨j, by omega, e⟩
    | false =>
      rw [if_neg (by simp), List.append_nil]
      have hk' : ¬ (m = 0 ∨ d[m]! ≠ d[m - 1]!) := by
        intro h; rw [Lib.keeps, decide_eq_true h] at hk; cases hk
      refine ⟨h1, fun x => ?_⟩
      rw [h2]
      constructor
      · rintro ⟨j, hj, e⟩; exact ⟨j, by omega, e⟩
      · rintro ⟨j, hj, e⟩
        by_cases e' : j = m
        · subst e'
          have h5 : d[j]! = d[j - 1]! := Classical.not_not.1 fun h => hk' (.inr h)
          exact ⟨j - 1, by omega, by rw [← h5]; exact e⟩
        · exact ⟨j, by omega, e⟩
theorem rise_int (l : List Int) : (Lib.compact (sorted l)).Pairwise (· < ·) ∧ ∀ x, x ∈ Lib.compact (sorted l) ↔ x ∈ l := by
  have hp := sorted_pair l
  rw [List.pairwise_iff_getElem] at hp
  have hg : ∀ j, j < (sorted l).length → (sorted l).toArray[j]! = (sorted l).getD j 0 := fun j hj => by
    simp [List.getD_eq_getElem?_getD, hj]
  obtain ⟨h1, h2⟩ := compact_upto (sorted l).toArray (fun i j hij hj => by
    have hj' : j < (sorted l).length := by simpa using hj
    rw [hg i (by omega), hg j hj']
    by_cases e : i = j
    · subst e; exact Int.le_refl _
    · have := hp i j (by omega) hj' (by omega)
      simpa [List.getD_eq_getElem?_getD, hj', show i < (sorted l).length by omega] using this) (sorted l).length (by simp)
  refine ⟨h1, fun x => (h2 x).trans ?_⟩
  rw [← sorted_mem l x, List.mem_iff_getElem]
  constructor
  · rintro ⟨j, hj, e⟩
    rw [hg j hj] at e
    exact ⟨j, hj, by simpa [List.getD_eq_getElem?_getD, hj] using e⟩
  · rintro ⟨j, hj, e⟩
    refine ⟨j, hj, ?_⟩
    rw [hg j hj]
    simpa [List.getD_eq_getElem?_getD, hj] using e
/-- Numbers of nought or more: so are what comes of them. -/
theorem rise_nat (l : List Nat) : ∃ L : List Nat, Lib.compact (sorted (l.map fun (n : Nat) => (n : Int))) = L.map (fun (n : Nat) => (n : Int)) ∧ L.Pairwise (· < ·) ∧ ∀ x, x ∈ L ↔ x ∈ l := by
  obtain ⟨h1, h2⟩ := rise_int (l.map fun (n : Nat) => (n : Int))
  generalize Lib.compact (sorted (l.map fun (n : Nat) => (n : Int))) = m at h1 h2
  have hm : (m.map Int.toNat).map (fun (n : Nat) => (n : Int)) = m := by
    rw [List.map_map]
    refine (List.map_congr_left (g := id) fun a ha => ?_).trans (List.map_id _)
    obtain ⟨n, _, rfl⟩ := List.mem_map.1 ((h2 a).1 ha)
    simp
  refine ⟨m.map Int.toNat, hm.symm, ?_, fun x => ?_⟩
  · have h3 : ((m.map Int.toNat).map (fun (n : Nat) => (n : Int))).Pairwise (· < ·) := by rw [hm]; exact h1
    rw [List.pairwise_map] at h3
    exact h3.imp fun h => by omega
  · have h4 := h2 (x : Int)
    rw [← hm, List.mem_map, List.mem_map] at h4
    constructor
    · intro hx
      obtain ⟨n, hn, e⟩ := h4.1 ⟨x, hx, rfl⟩
      have : n = x := by omega
      exact this ▸ hn
    · intro hx
      obtain ⟨n, hn, e⟩ := h4.2 ⟨x, hx, rfl⟩
      have : n = x := by omega
      exact this ▸ hn
theorem compact_le (l : List Int) : (Lib.compact l).length ≤ l.length := by
  unfold Lib.compact Lib.compactUpTo
  rw [List.length_map]
  exact Nat.le_trans (List.length_filter_le _ _) (by simp)
theorem compactI_ok (s : Sl) (l : List Int) (base e : Nat) (H : Heap) (hs : OwnF IV H base e s l) (hl : l.length ≤ 9223372036854775807) :
    CallsH Tryz.prog 185 [s.val] H fun v H' => (∃ s' : Sl, v = s'.val ∧ OwnF IV H' base e s' (Lib.compact l) ∧ s'.blk = s.blk) ∧ Chg (fun b => s.blk = some b) H H' := by
  refine ⟨callable_of Tryz.func185 rfl rfl, fun w hw => ?_⟩
  subst hw
  obtain ⟨h1, h2⟩ := id hs
  rw [List.length_map, Nat.mul_one] at h1
  rcases h2 with h2 | ⟨g, cur, ha, hb, hh, hlc, hm, hc, ht⟩
  · obtain ⟨h3, h4⟩ := s.ok h2
    have hl0 : l = [] := List.eq_nil_of_length_eq_zero (by omega)
    subst hl0
    have e1 : s.val = .slice s.ao 0 s.cap := by rw [Sl.val, h3]
    show Calls _ _ #[s.val] w _
    rw [e1]
    refine (Tryz.slices_Compact_int_empty s.ao s.cap w).mono ?_
    rintro _ _ ⟨rfl, rfl⟩
    exact ⟨_, rfl, Sim.refl _, ⟨s, e1.symm, hs, rfl⟩, Chg.refl _ _⟩
  · have e1 : s.val = .slice (some ⟨g, 0, none⟩) l.length s.cap := by rw [Sl.val, ha, h1]
    rw [Nat.mul_one, ← h1] at ht
    have hH := holds_of_blockI hh ht
    have hcl := compact_le l
    show Calls _ _ #[s.val] w _
    rw [e1]
    refine (Tryz.slices_Compact_int g 0 s.cap l w hH hl (by omega)).mono ?_
    rintro _ _ ⟨rfl, n, rfl⟩
    have hsz : (Lib.compact l ++ List.replicate (l.length - (Lib.compact l).length) 0).length = l.length := by simp; omega
    have hh' := heap_sortedI (os := #[]) (n := n) (w := w) (Lib.compact l ++ List.replicate (l.length - (Lib.compact l).length) 0).toArray hh
    rw [grow_empty] at hh'
    refine ⟨_, rfl, ⟨rfl, rfl, rfl⟩, ⟨⟨some ⟨g, 0, none⟩, (Lib.compact l).length, s.cap, fun h => (by cases h), by omega⟩, rfl, ⟨by simp, .inr ⟨g, _, rfl, hb, hh', by simp only; omega, hm, by simp [putCells, hc], ?_⟩⟩, by simp [Sl.blk, ha]⟩, ⟨by simp [putRow, mapBlock, Sort.ahead], fun k hk hne => ?_⟩⟩
    · have h5 := take_putCellsI cur (Lib.compact l ++ List.replicate (l.length - (Lib.compact l).length) 0) (by rw [hsz]; omega)
      rw [hsz] at h5
      have h6 := congrArg (List.take (Lib.compact l).length) h5
      rw [List.take_take, Nat.min_eq_left hcl, ← List.map_take, List.take_left] at h6
      simpa using h6
    · have : g ≠ k := fun e => hne (by simp [Sl.blk, ha, e])
      simp [putRow, mapBlock, Sort.ahead, Array.getElem?_modify, this]
end Go.Proofs.YtaikdcnifijcoaaGreat
set_option linter.unusedVariables false
set_option linter.unusedSimpArgs false
namespace Go.Proofs.YtaikdcnifijcoaaGreat
open Go Go.Vc Go.Gf
theorem compare_ok (a b : List UInt8) (H : Heap) : CallsH Tryz.prog 201 [S a, S b] H fun r H' => r = IV (Lib.compareBytes a b) ∧ H = H' := by
  refine ⟨callable_of Tryz.func201 rfl rfl, fun w hw => ?_⟩
  subst hw
  refine (Tryz.strings_Compare ⟨a.toArray⟩ ⟨b.toArray⟩ w).mono ?_
  rintro _ _ ⟨rfl, rfl⟩
  exact ⟨_, rfl, ⟨rfl, rfl, rfl⟩, rfl, rfl⟩
theorem bfind1_ok (h : HdT) (id : List UInt8) (H : Heap) : CallsH Tryz.prog 200 [.agg #[S h.1, IV h.2], S id] H fun r H' => r = IV (Lib.compareBytes h.1 id) ∧ Ext H H' := by
  refine CallsH.enter h200 Tryz.func200 rfl rfl rfl (by decide) fun u => run ?_
  refine RegS.boxA (cs := [S h.1, IV h.2]) fun H1 x1 z1 b1 => ?_
  refine run ?_
  refine RegS.call (compare_ok h.1 id H1) ?_
  rintro _ _ ⟨rfl, rfl⟩
  refine run ?_
  exact ret1 ⟨rfl, x1⟩
/-- Where a name stands, or would. -/
def StandsAt (l : List HdT) (id : List UInt8) (i : Nat) : Prop := i ≤ l.length ∧ (∀ k, k < i → Lib.compareBytes (l.getD k ([], 0)).1 id < 0) ∧ ∀ k, i ≤ k → k < l.length → ¬ Lib.compareBytes (l.getD k ([], 0)).1 id < 0
set_option maxHeartbeats 4000000 in
theorem search_ok {H : Heap} (w : Sl) (l : List HdT) (id : List UInt8) (hr : HRow H w l) (hll : l.length ≤ 1000) (hm : ∀ p q, p ≤ q → q < l.length → Lib.compareBytes (l.getD q ([], 0)).1 id < 0 → Lib.compareBytes (l.getD p ([], 0)).1 id < 0) :
    CallsH Tryz.prog 199 [w.val, S id, .func (.func 200) #[] #[]] H fun r H' => (∃ i : Nat, StandsAt l id i ∧ r = .tuple #[I64 i, .bool (dec (i < l.length ∧ Lib.compareBytes (l.getD i ([], 0)).1 id = 0))]) ∧ Ext H H' := by
  refine CallsH.enter h199 Tryz.func199 rfl rfl rfl (by decide) fun u => run ?_
  refine Wp.loop (ι := Nat × Nat) (fun i => [(0, w.val), (1, S id), (2, .func (.func 200) #[] #[]), (8, I64 l.length), (9, I64 i.1), (10, I64 i.2)]) (fun i A => i.1 ≤ i.2 ∧ i.2 ≤ l.length ∧ (∀ k, k < i.1 → Lib.compareBytes (l.getD k ([], 0)).1 id < 0) ∧ (∀ k, i.2 ≤ k → k < l.length → ¬ Lib.compareBytes (l.getD k ([], 0)).1 id < 0) ∧ Ext H A) (fun i => i.2 - i.1) (0, l.length) subs ⟨Nat.zero_le _, Nat.le_refl _, fun k hk => absurd hk (Nat.not_lt_zero k), fun k h1 h2 => by omega, Ext.refl _⟩ ?_
  rintro ⟨i, j⟩ A ⟨h1, h2, h3, h4, xA⟩
  have h1 : i ≤ j := h1
  have h2 : j ≤ l.length := h2
  have hA := hr.ext xA
  show Wp _ _ _ [(0, w.val), (1, S id), (2, .func (.func 200) #[] #[]), (8, I64 l.length), (9, I64 i), (10, I64 j)] _ _
  refine run ?_
  refine Wp.br (fun hlt => ?_) (fun hlt => ?_)
  · have hlt : (i : Int) < (j : Int) := hlt
    refine run ?_
    have hsh : (i + j) >>> 1 = (i + j) / 2 := rfl
    obtain ⟨h, hh⟩ : ∃ h, h = (i + j) >>> 1 := ⟨_, rfl⟩
    rw [← hh]
    have hh1 : i ≤ h ∧ h < j := by rw [hh, hsh]; omega
    refine RegS.call (bfind1_ok (l.getD h ([], 0)) id A) ?_
    rintro _ A1 ⟨rfl, y1⟩
    refine run ?_
    refine Wp.br (fun hc => ?_) (fun hc => ?_)
    · have hc : Lib.compareBytes (l.getD h ([], 0)).1 id < 0 := hc
      refine run ?_
      exact roundQ_n (h + 1, j) subs ⟨by show h + 1 ≤ j; omega, h2, fun k hk => hm k h (by have hk : k < h + 1 := hk; omega) (by omega) hc, h4, xA.trans y1⟩ (by show j - (h + 1) < j - i; omega)
    · have hc : ¬ Lib.compareBytes (l.getD h ([], 0)).1 id < 0 := hc
      refine run ?_
      exact roundQ_n (i, h) subs ⟨hh1.1, by show h ≤ l.length; omega, h3, fun k hk hk2 => fun e => hc (hm h k hk hk2 e), xA.trans y1⟩ (by show h - i < j - i; omega)
  · have hlt : ¬ (i : Int) < (j : Int) := hlt
    have hij : i = j := by omega
    subst hij
    have hst : StandsAt l id i := ⟨h2, h3, h4⟩
    by_cases hi : (i : Int) < (l.length : Int)
    · refine run ?_
      refine RegS.call (bfind1_ok (l.getD i ([], 0)) id A) ?_
      rintro _ A1 ⟨rfl, y1⟩
      refine run ?_
      refine ret2 ⟨⟨i, hst, ?_⟩, xA.trans y1⟩
      rw [dec_congr (show (i < l.length ∧ Lib.compareBytes (l.getD i ([], 0)).1 id = 0) ↔ Lib.compareBytes (l.getD i ([], 0)).1 id = ((0 : Nat) : Int) from ⟨fun k => k.2, fun k => ⟨by omega, k⟩⟩)]
    · refine run ?_
      refine ret2 ⟨⟨i, hst, ?_⟩, xA⟩
      rw [dec_neg fun k => hi (by omega)]
      rfl
end Go.Proofs.YtaikdcnifijcoaaGreat
set_option linter.unusedVariables false
set_option linter.unusedSimpArgs false
namespace Go.Vc
/-- s[l:h:m], of elements of n cells. -/
def Sl.cutN (s : Sl) (n l h m : Nat) : Sl :=
  if hh : l ≤ h ∧ h ≤ m ∧ m ≤ s.cap then ⟨if m = l then s.ao else s.ao.map (·.add (l * n)), h - l, m - l, fun hn => by
    have : s.ao = none := by
      split at hn
      · exact hn
      · simpa using hn
    have := (s.ok this).2
    omega, by omega⟩ else Sl.nil
theorem Sl.cutN_val {s : Sl} {n l h m : Nat} (hh : l ≤ h ∧ h ≤ m ∧ m ≤ s.cap) : (s.cutN n l h m).val = .slice (if m = l then s.ao else s.ao.map (·.add (l * n))) (h - l) (m - l) := by
  unfold Sl.cutN; rw [dif_pos hh]; rfl
theorem Rd.sliceN {C : Cx} {o : Oper} {L : Env} {H : Heap} [Tbl C.P] {t e sz bt bytes n l h m : Nat} {z z' : Value} {d : TypeDesc} {x : Operand} {lo hi mx : Option Operand} {s : Sl} (ho : o.op = .slice t x lo hi mx) (hx : L.ev x = some s.val)
    (hlo : (lo = none ∧ l = 0) ∨ ∃ y k, lo = some y ∧ L.ev y = some (.int k (l : Int))) (hhi : (hi = none ∧ mx = none ∧ h = s.len) ∨ ∃ y k, hi = some y ∧ L.ev y = some (.int k (h : Int))) (hmx : (mx = none ∧ m = s.cap) ∨ ∃ y k, mx = some y ∧ L.ev y = some (.int k (m : Int)))
    (ht : ty C.P t = some ⟨.slice e, sz, bt, z⟩) (he : ty C.P e = some ⟨d, n, bytes, z'⟩) (hh : l ≤ h ∧ h ≤ m ∧ m ≤ s.cap) : Rd C o L H (s.cutN n l h m).val :=
  Rd.of (by rw [ho]; rfl) fun act w ha ex => by
    have e1 := agr_of ha hx (by rw [ho]; simp [Op.operands])
    have el : ∀ y k, lo = some y → L.ev y = some (.int k (l : Int)) → act.eval y = .int k l := fun y k hy h => agr_of ha h (by rw [ho, hy]; simp [Op.operands])
    have eh : ∀ y k, hi = some y → L.ev y = some (.int k (h : Int)) → act.eval y = .int k h := fun y k hy h => agr_of ha h (by rw [ho, hy]; simp [Op.operands])
    have em : ∀ y k, mx = some y → L.ev y = some (.int k (m : Int)) → act.eval y = .int k m := fun y k hy h => agr_of ha h (by rw [ho, hy]; simp [Op.operands])
    have b1 : (0 : Int) ≤ l ∧ (l : Int) ≤ h := by omega
    have b2 : (0 : Int) ≤ h ∧ (h : Int) ≤ m := by omega
    have b3 : (0 : Int) ≤ m ∧ (m : Int) ≤ s.cap := by omega
    have b4 : (h : Int) ≤ s.cap := by omega
    rw [Sl.cutN_val hh]
    simp only [Sl.val] at e1
    rcases hmx with ⟨rfl, rfl⟩ | ⟨ym, km, rfl, hym⟩
    · rcases hlo with ⟨rfl, rfl⟩ | ⟨yl, kl, rfl, hyl⟩ <;> rcases hhi with ⟨rfl, _, rfl⟩ | ⟨yh, kh, rfl, hyh⟩
      · simp [execOp, ho, e1, Instr.sliceAt, Instr.slice, Instr.sliceBounds, Sem.run_bind, ty.und ht, ty.sizeOf he, Result.andThen, Sem.run]
      · simp [execOp, ho, e1, eh _ _ rfl hyh, Instr.sliceAt, Instr.slice, Instr.sliceBounds, Instr.sliceBound, asIntOf, Sem.run_bind, ty.und ht, ty.sizeOf he, Result.andThen, Sem.run, b1, b2, b3, b4]
        rw [if_pos (by omega)]
        try (simp [Sem.run, Result.andThen])
      · simp [execOp, ho, e1, el _ _ rfl hyl, Instr.sliceAt, Instr.slice, Instr.sliceBounds, Instr.sliceBound, asIntOf, Sem.run_bind, ty.und ht, ty.sizeOf he, Result.andThen, Sem.run, b1, b2, b3, b4]
        rw [if_pos (by omega)]
        try (simp [Sem.run, Result.andThen])
      · simp [execOp, ho, e1, el _ _ rfl hyl, eh _ _ rfl hyh, Instr.sliceAt, Instr.slice, Instr.sliceBounds, Instr.sliceBound, asIntOf, Sem.run_bind, ty.und ht, ty.sizeOf he, Result.andThen, Sem.run, b1, b2, b3, b4]
        rw [if_pos (by omega)]
        try (simp [Sem.run, Result.andThen])
        rw [if_pos (by omega)]
        try (simp [Sem.run, Result.andThen])
    · rcases hhi with ⟨_, h0, _⟩ | ⟨yh, kh, rfl, hyh⟩
      · cases h0
      rcases hlo with ⟨rfl, rfl⟩ | ⟨yl, kl, rfl, hyl⟩
      · simp [execOp, ho, e1, eh _ _ rfl hyh, em _ _ rfl hym, Instr.sliceAt, Instr.slice, Instr.sliceBounds, Instr.sliceBound, asIntOf, Sem.run_bind, ty.und ht, ty.sizeOf he, Result.andThen, Sem.run, b1, b2, b3, b4]
        rw [if_pos (by omega)]
        try (simp [Sem.run, Result.andThen])
        rw [if_pos (by omega)]
        try (simp [Sem.run, Result.andThen])
      · simp [execOp, ho, e1, el _ _ rfl hyl, eh _ _ rfl hyh, em _ _ rfl hym, Instr.sliceAt, Instr.slice, Instr.sliceBounds, Instr.sliceBound, asIntOf, Sem.run_bind, ty.und ht, ty.sizeOf he, Result.andThen, Sem.run, b1, b2, b3, b4]
        rw [if_pos (by omega)]
        try (simp [Sem.run, Result.andThen])
        rw [if_pos (by omega)]
        try (simp [Sem.run, Result.andThen])
        rw [if_pos (by omega)]
        try (simp [Sem.run, Result.andThen])
end Go.Vc
