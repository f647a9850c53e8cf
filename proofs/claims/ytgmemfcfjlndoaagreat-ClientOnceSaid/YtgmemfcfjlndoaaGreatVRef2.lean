/-
  The document's answers, walked: numbers, choices, what is agreed on.
-/
import Derived.Test.YtgmemfcfjlndoaaGreatVRef
import Derived.Test.YtgmemfcfjlndoaaGreatVPlain
import Derived.Test.YtgmemfcfjlndoaaGreatVcMem
set_option linter.unusedVariables false
set_option linter.unusedSimpArgs false
namespace Go.Proofs.YtgmemfcfjlndoaaGreat
open Go Go.Vc Go.Gf

theorem nats_eq {l m : List Nat} (hl : l.length = m.length) (h : ∀ k, k < l.length → l.getD k 0 = m.getD k 0) : l = m := by
  refine List.ext_getElem hl fun k h1 h2 => ?_
  have := h k h1
  simpa [List.getD_eq_getElem?_getD, List.getElem?_eq_getElem h1, List.getElem?_eq_getElem h2] using this
theorem wrong_own (q s r : Sl) (p xs ys : List UInt8) (H : Heap) (hq : Bytes H q p) (hs : Bytes H s xs) (hr : Bytes H r ys) (hp : p.length ≤ 140737488355328) (hx : xs.length ≤ 1000000) (hl : xs.length ≤ ys.length) : CallsH Tryz.prog 63 [q.val, s.val, r.val] H fun v H' => ∃ O : Sl, v = O.val ∧ OwnF I64 H' H.size 3 O (wrongL p xs ys xs.length) ∧ Ext H H' := by
  refine CallsH.enter h63 Tryz.func63 rfl rfl rfl (by decide) fun u => go ?_
  refine Wp.loop (ι := Nat × Sl) (fun i => [(0, q.val), (1, s.val), (2, r.val), (7, i.2.val), (8, I64 i.1)]) (fun i A => i.1 ≤ xs.length ∧ Ext H A ∧ OwnF I64 A H.size 3 i.2 (wrongL p xs ys i.1)) (fun i => xs.length - i.1) (0, Sl.nil) subs ⟨Nat.zero_le _, Ext.refl _, OwnR.nil _ _ _ _⟩ ?_
  rintro ⟨k, O⟩ A ⟨hk, eA, hO⟩
  have hk : k ≤ xs.length := hk
  have hO : OwnF I64 A H.size 3 O (wrongL p xs ys k) := hO
  have hsA := hs.ext eA
  have hrA := hr.ext eA
  have hqA := hq.ext eA
  have hwl := wrongL_le p xs ys k
  have hsu := wrongL_succ p xs ys k
  refine go ?_
  refine Wp.br (fun h => ?_) (fun h => ?_)
  · have h : (k : Int) < (xs.length : Int) := h
    refine go ?_
    refine RegP.call (reval_ok q p (xs.getD k 0) A hqA (by omega)) ?_
    rintro _ _ ⟨rfl, rfl⟩
    refine ⟨.inl (Ext.refl _), ?_⟩
    refine go ?_
    refine Wp.br (fun hne => ?_) (fun hne => ?_) <;> refine go ?_
    · rw [if_pos hne] at hsu
      refine RegS.buildSlice fun A2 o2 y2 w2 => ?_
      have r2 : RowF I64 0 A2 (Sl.fresh A.size 1) [k] := OwnR.rowF (e := 3) (l := [k]) o2
      have hz2 := (eA.trans y2).size
      refine go ?_
      refine RegS.append (f := I64) (hO.ext y2) r2 (fun _ => rfl) hz2 ?_ ?_ ?_
      · simp only [List.length_singleton]; omega
      · simp only [List.length_singleton]; omega
      intro O' A3 o3 c3 b3
      refine go ?_
      refine roundQ_n (k + 1, O') subs ⟨by simp only; omega, (eA.trans y2).then c3 fun x hx => (hO.blk_ge hx).1, ?_⟩ (by simp only; omega)
      show OwnF I64 _ _ _ _ (wrongL p xs ys (k + 1))
      rw [hsu]
      exact o3
    · rw [if_neg hne] at hsu
      refine roundQ_n (k + 1, O) subs ⟨by simp only; omega, eA, ?_⟩ (by simp only; omega)
      show OwnF I64 _ _ _ _ (wrongL p xs ys (k + 1))
      rw [hsu]
      exact hO
  · refine go ?_
    have h : ¬ (k : Int) < (xs.length : Int) := h
    have : k = xs.length := by omega
    subst this
    exact ret1 ⟨O, rfl, hO, eA⟩
theorem wrong_ok (q s r : Sl) (p xs ys : List UInt8) (H : Heap) (hq : Bytes H q p) (hs : Bytes H s xs) (hr : Bytes H r ys) (hp : p.length ≤ 140737488355328) (hx : xs.length ≤ 1000000) (hl : xs.length ≤ ys.length) : CallsH Tryz.prog 63 [q.val, s.val, r.val] H fun v H' => ∃ O : Sl, v = O.val ∧ RowF I64 0 H' O (wrongL p xs ys xs.length) ∧ Ext H H' :=
  (wrong_own q s r p xs ys H hq hs hr hp hx hl).mono fun v H' ⟨O, h1, h2, h3⟩ => ⟨O, h1, h2.rowF, h3⟩

/-! ### Rows of numbers -/
structure IRows (H : Heap) (s : Sl) (ss : List Sl) (ls : List (List Nat)) : Prop where
  row : RowF Sl.val Sl.nil H s ss
  len : ss.length = ls.length
  each : ∀ k, k < ls.length → RowF I64 0 H (ss.getD k Sl.nil) (ls.getD k [])
theorem IRows.ext {H H' : Heap} {s : Sl} {ss : List Sl} {ls : List (List Nat)} (h : IRows H s ss ls) (e : Ext H H') : IRows H' s ss ls := ⟨h.row.ext e, h.len, fun k hk => (h.each k hk).ext e⟩
structure IMat (H : Heap) (base : Nat) (t : Sl) (ss : List Sl) (m : List (List Nat)) : Prop where
  arr : OwnF Sl.val H base 34 t ss
  len : ss.length = m.length
  each : ∀ k, k < m.length → OwnF I64 H base 3 (ss.getD k Sl.nil) (m.getD k [])
  apart : ∀ k, k < m.length → ∀ b, (ss.getD k Sl.nil).blk = some b → t.blk ≠ some b
section
variable {H H' : Heap} {base : Nat} {t : Sl} {ss : List Sl} {m : List (List Nat)}
theorem IMat.nil (H : Heap) (base : Nat) : IMat H base Sl.nil [] [] := ⟨OwnR.nil _ _ _ _, rfl, fun k hk => absurd hk (by simp), fun k hk => absurd hk (by simp)⟩
theorem IMat.ext (h : IMat H base t ss m) (e : Ext H H') : IMat H' base t ss m := ⟨h.arr.ext e, h.len, fun k hk => (h.each k hk).ext e, h.apart⟩
theorem IMat.chg {S : Nat → Prop} (h : IMat H base t ss m) (c : Chg S H H') (h1 : ∀ x, t.blk = some x → ¬ S x) (h2 : ∀ k x, k < m.length → (ss.getD k Sl.nil).blk = some x → ¬ S x) : IMat H' base t ss m := ⟨h.arr.chg c h1, h.len, fun k hk => (h.each k hk).chg c fun x hx => h2 k x hk hx, h.apart⟩
theorem IMat.irows (h : IMat H base t ss m) : IRows H t ss m := ⟨h.arr.rowF, h.len, fun k hk => (h.each k hk).rowF⟩
theorem IMat.low {base' : Nat} (h : IMat H base t ss m) (hb : base' ≤ base) : IMat H base' t ss m := ⟨h.arr.low hb, h.len, fun k hk => (h.each k hk).low hb, h.apart⟩
theorem IMat.app {t' s : Sl} {l : List Nat} (h : IMat H base t ss m) (hs : OwnF I64 H base 3 s l) (hst : ∀ b, s.blk = some b → t.blk ≠ some b)
    (ho : OwnF Sl.val H' base 34 t' (ss ++ [s])) (c : Chg (fun b => t.blk = some b) H H') (hb : t'.blk = t.blk ∨ ∃ b, t'.blk = some b ∧ H.size ≤ b) : IMat H' base t' (ss ++ [s]) (m ++ [l]) := by
  have hl := h.len
  have hg : ∀ k, k ≤ m.length → (ss ++ [s]).getD k Sl.nil = if k < m.length then ss.getD k Sl.nil else s := fun k hk => by
    by_cases hlt : k < m.length
    · rw [if_pos hlt]; simp [List.getD_eq_getElem?_getD, List.getElem?_append, show k < ss.length from by omega]
    · rw [if_neg hlt]; simp [List.getD_eq_getElem?_getD, List.getElem?_append, show ¬ k < ss.length from by omega, show k - ss.length = 0 from by omega]
  have hm : ∀ k, k ≤ m.length → (m ++ [l]).getD k [] = if k < m.length then m.getD k [] else l := fun k hk => by
    by_cases hlt : k < m.length
    · rw [if_pos hlt]; simp [List.getD_eq_getElem?_getD, List.getElem?_append, hlt]
    · rw [if_neg hlt]; simp [List.getD_eq_getElem?_getD, List.getElem?_append, hlt, show k - m.length = 0 from by omega]
  refine ⟨ho, by simp [h.len], fun k hk => ?_, fun k hk b h1 ht => ?_⟩
  · simp only [List.length_append, List.length_singleton] at hk
    rw [hg k (by omega), hm k (by omega)]
    by_cases hlt : k < m.length
    · rw [if_pos hlt, if_pos hlt]; exact (h.each k hlt).chg c fun b hb' hb'' => h.apart k hlt b hb' hb''
    · rw [if_neg hlt, if_neg hlt]; exact hs.chg c fun b hb' hb'' => hst b hb' hb''
  · simp only [List.length_append, List.length_singleton] at hk
    rw [hg k (by omega)] at h1
    by_cases hlt : k < m.length
    · rw [if_pos hlt] at h1
      rcases hb with hb | ⟨b', hb, hz⟩
      · exact h.apart k hlt b h1 (hb ▸ ht)
      · have := ((h.each k hlt).blk_ge h1).2
        rw [hb] at ht; simp only [Option.some.injEq] at ht; omega
    · rw [if_neg hlt] at h1
      rcases hb with hb | ⟨b', hb, hz⟩
      · exact hst b h1 (hb ▸ ht)
      · have := (hs.blk_ge h1).2
        rw [hb] at ht; simp only [Option.some.injEq] at ht; omega
end
theorem map_take_succ {l : List (List Nat)} {g : List Nat → List Nat} {j : Nat} (hj : j < l.length) : (l.take (j + 1)).map g = (l.take j).map g ++ [g (l.getD j [])] := by
  have e : l.take (j + 1) = l.take j ++ [l.getD j []] := by
    rw [List.take_add_one, List.getElem?_eq_getElem hj]
    simp [List.getD_eq_getElem?_getD, List.getElem?_eq_getElem hj]
  rw [e, List.map_append]
  rfl

set_option maxHeartbeats 1000000 in
theorem picks_ok : ∀ (s n : Nat) (H : Heap), n ≤ 20 → s ≤ 1000 → CallsH Tryz.prog 122 [I64 n, I64 s] H fun v H' => ∃ (t : Sl) (tt : List Sl), v = t.val ∧ IMat H' H.size t tt (pk s n) ∧ Ext H H'
  | 0, n, H, hn, hs => by
    refine CallsH.enter h122 Tryz.func122 rfl rfl rfl (by decide) fun u => go ?_
    refine RegS.buildSlice fun H1 o1 e1 z1 => ?_
    refine go ?_
    refine RegS.buildSlice fun H2 o2 e2 z2 => ?_
    refine go ?_
    have o1' : OwnF I64 H2 H.size 3 (Sl.fresh H.size 0) [] := OwnR.ext (xs := []) o1 e2
    have o2' : OwnF Sl.val H2 H.size 34 (Sl.fresh H1.size 1) [Sl.fresh H.size 0] := OwnR.low o2 (by omega)
    refine ret1 ⟨_, [Sl.fresh H.size 0], rfl, ⟨o2', rfl, fun k hk => ?_, fun k hk b hb => ?_⟩, e1.trans e2⟩
    · have : k = 0 := by simp [pk] at hk; exact hk
      subst this
      exact o1'
    · have : k = 0 := by simp [pk] at hk; exact hk
      subst this
      have hb : (Sl.fresh H.size 0).blk = some b := hb
      simp [Sl.blk, Sl.fresh] at hb ⊢
      omega
  | s + 1, n, H, hn, hs => by
    refine CallsH.enter h122 Tryz.func122 rfl rfl rfl (by decide) fun u => go ?_
    refine Wp.loop (ι := Nat × Sl × List Sl) (fun i => [(0, I64 n), (1, I64 (s + 1)), (5, i.2.1.val), (6, I64 (s + i.1))]) (fun i A => i.1 ≤ n ∧ (s ≤ n → s + i.1 ≤ n) ∧ (n < s → i.1 = 0) ∧ Ext H A ∧ IMat A H.size i.2.1 i.2.2 (pkTo s i.1)) (fun i => n - i.1) (0, Sl.nil, []) ⟨rfl, rfl, rfl, rfl, trivial⟩ ⟨Nat.zero_le _, fun h => h, fun _ => rfl, Ext.refl _, IMat.nil _ _⟩ ?_
    rintro ⟨k, t, tt⟩ A ⟨hk, hk2, hk3, eA, hM⟩
    have hk : k ≤ n := hk
    have hk2 : s ≤ n → s + k ≤ n := hk2
    have hk3 : n < s → k = 0 := hk3
    have hM : IMat A H.size t tt (pkTo s k) := hM
    refine go ?_
    refine Wp.br (fun h => ?_) (fun h => ?_)
    case refine_2 =>
      have h : ¬ ((s + k : Nat) : Int) < (n : Int) := h
      refine go ?_
      refine ret1 ⟨t, tt, rfl, ?_, eA⟩
      rw [pk_succ]
      by_cases hsn : s ≤ n
      · rw [show n - s = k by have := hk2 hsn; omega]; exact hM
      · rw [show n - s = k by have := hk3 (by omega); omega]; exact hM
    have h : ((s + k : Nat) : Int) < (n : Int) := h
    refine go ?_
    refine RegS.call (picks_ok s (s + k) A (by omega) (by omega)) ?_
    rintro _ A1 ⟨q, qq, rfl, hQ, e1⟩
    have hql := hQ.len
    have hQr := hQ.irows
    have hpl := pk_length s (s + k)
    have hpe := pk_each s (s + k)
    have hpow : 2 ^ (s + k) ≤ 2 ^ 20 := Nat.pow_le_pow_right (by decide) (by omega)
    have htl : (pkTo s k).length ≤ 2 ^ 20 := by
      have := pk_length (s + 1) (s + k)
      rw [pk_succ, show s + k - s = k by omega] at this
      omega
    generalize hP : pk s (s + k) = P at hQ hql hQr hpl hpe
    refine go ?_
    refine Wp.loop (ι := Nat × Sl × List Sl) (fun i => [(0, I64 n), (1, I64 (s + 1)), (5, i.2.1.val), (6, I64 (s + k)), (7, q.val), (8, I64 i.1)]) (fun i B => i.1 ≤ P.length ∧ (IMat B A.size q qq P ∧ A1.size ≤ B.size) ∧ Ext H B ∧ IMat B H.size i.2.1 i.2.2 (pkTo s k ++ (P.take i.1).map (· ++ [s + k])) ∧ (∀ x, i.2.1.blk = some x → x < A.size ∨ A1.size ≤ x)) (fun i => P.length - i.1) (0, t, tt) subs ⟨Nat.zero_le _, ⟨hQ, Nat.le_refl _⟩, eA.trans e1, by simpa using hM.ext e1, fun x hx => .inl (hM.arr.blk_ge hx).2⟩ ?_
    have hq1 : ∀ x, q.blk = some x → x < A1.size := fun x hx => (hQ.arr.blk_ge hx).2
    have hq2 : ∀ k x, k < P.length → (qq.getD k Sl.nil).blk = some x → x < A1.size := fun k x hk hx => ((hQ.each k hk).blk_ge hx).2
    rintro ⟨j, t, tt⟩ B ⟨hj, ⟨hQB, zB1⟩, xB, hM, hlow⟩
    have hj : j ≤ P.length := hj
    have hM : IMat B H.size t tt (pkTo s k ++ (P.take j).map (· ++ [s + k])) := hM
    have hlow : ∀ x, t.blk = some x → x < A.size ∨ A1.size ≤ x := hlow
    have hQrB := hQB.irows
    have hrowB := hQrB.row
    have hml := hM.len
    simp only [List.length_append, List.length_map, List.length_take] at hml
    have zB := xB.size
    refine go ?_
    refine Wp.br (fun h => ?_) (fun h => ?_)
    case refine_2 =>
      have h : ¬ (j : Int) < (qq.length : Int) := h
      refine go ?_
      have hjP : j = P.length := by omega
      subst hjP
      refine roundQ_n (k + 1, t, tt) ⟨rfl, rfl, rfl, ?_, trivial⟩ ⟨by simp only; omega, fun _ => by simp only; omega, fun h => by omega, xB, ?_⟩ (by simp only; omega)
      · exact get_int rfl (by simp only; omega)
      · show IMat _ _ _ _ (pkTo s (k + 1))
        rw [pkTo_succ, hP]
        rw [List.take_length] at hM
        exact hM
    have h : (j : Int) < (qq.length : Int) := h
    have hrj := hQrB.each j (by omega)
    have hpj := hpe (P.getD j []) (by
      have : P.getD j [] = P[j]'(by omega) := by simp [List.getD_eq_getElem?_getD, List.getElem?_eq_getElem (show j < P.length by omega)]
      rw [this]; exact List.getElem_mem _)
    refine go ?_
    refine RegS.buildSlice fun B1 o1 y1 w1 => ?_
    have o1 : OwnF I64 B1 B.size 3 (Sl.fresh B.size 0) [] := o1
    have hrow1 := hrowB.ext y1
    have hrj1 := hrj.ext y1
    refine go ?_
    refine RegS.append (f := I64) o1 hrj1 (fun _ => rfl) (by have := y1.size; omega) ?_ ?_ ?_
    · simp only [List.length_nil]; omega
    · simp only [List.length_nil]; omega
    intro r B2 o2 c2 b2
    have o2 : OwnF I64 B2 B.size 3 r (P.getD j []) := o2
    have x2 : Ext B B2 := y1.then c2 fun x hx => (o1.blk_ge hx).1
    refine go ?_
    refine RegS.buildSlice fun B3 o3 y3 w3 => ?_
    have r3 : RowF I64 0 B3 (Sl.fresh B2.size 1) [s + k] := OwnR.rowF (e := 3) (l := [s + k]) o3
    have x3 := x2.trans y3
    refine go ?_
    refine RegS.append (f := I64) (o2.ext y3) r3 (fun _ => rfl) (by have := x3.size; omega) ?_ ?_ ?_
    · simp only [List.length_singleton]; omega
    · simp only [List.length_singleton]; omega
    intro r' B4 o4 c4 b4
    have x4 : Ext B B4 := x3.then c4 fun x hx => (o2.blk_ge hx).1
    refine go ?_
    refine RegS.buildSlice fun B5 o5 y5 w5 => ?_
    have r5 : RowF Sl.val Sl.nil B5 (Sl.fresh B4.size 1) [r'] := OwnR.rowF (f := Sl.val) (l := [r']) o5
    have x5 := x4.trans y5
    have hM5 := hM.ext x5
    have z5 := x5.size
    refine go ?_
    refine RegS.append (f := Sl.val) hM5.arr r5 (fun _ => rfl) (by omega) ?_ ?_ ?_
    · simp only [List.length_singleton]; omega
    · simp only [List.length_singleton]; omega
    intro t' B6 o6 c6 b6
    have hM6 := hM5.app ((o4.ext y5).low (by omega)) (fun b hb hb' => by have := (o4.blk_ge hb).1; have := (hM.arr.blk_ge hb').2; omega) o6 c6 b6
    have zA := e1.size
    have z6 := c6.size
    refine go ?_
    refine roundQ_n (j + 1, t', tt ++ [r']) subs ⟨by simp only; omega, ?_, (xB.trans x5).then c6 fun x hx => (hM5.arr.blk_ge hx).1, ?_, ?_⟩ (by simp only; omega)
    · refine ⟨(hQB.ext x5).chg c6 (fun x hx hx' => ?_) (fun i x hi hx hx' => ?_), by omega⟩
      · have := hlow x hx'; have := hq1 x hx; have := (hQB.arr.blk_ge hx).1; omega
      · have := hlow x hx'; have := hq2 i x hi hx; have := ((hQB.each i hi).blk_ge hx).1; omega
    · show IMat _ _ _ _ (pkTo s k ++ (P.take (j + 1)).map (· ++ [s + k]))
      rw [map_take_succ (by omega), ← List.append_assoc]
      exact hM6
    · intro x hx
      have hx : t'.blk = some x := hx
      rcases b6 with b6 | ⟨z, b6, hz⟩
      · exact hlow x (b6 ▸ hx)
      · rw [b6] at hx; simp only [Option.some.injEq] at hx; right; omega
/-! ### What is agreed on -/
/-- Two rows of one's own, that grow. -/
structure Two (P X : Heap) (a b : Sl) (la lb : List UInt8) : Prop where
  ext : Ext P X
  ha : OwnF B8 X P.size 5 a la
  hb : OwnF B8 X P.size 5 b lb
  ab : ∀ x, a.blk = some x → b.blk ≠ some x
theorem Two.ext' {P X Y : Heap} {a b : Sl} {la lb : List UInt8} (h : Two P X a b la lb) (e : Ext X Y) : Two P Y a b la lb := ⟨h.ext.trans e, h.ha.ext e, h.hb.ext e, h.ab⟩
theorem Two.appA {P X Y : Heap} {a b a' : Sl} {la lb la' : List UInt8} (h : Two P X a b la lb) (ha : OwnF B8 Y P.size 5 a' la') (c : Chg (fun x => a.blk = some x) X Y) (hb : a'.blk = a.blk ∨ ∃ z, a'.blk = some z ∧ X.size ≤ z) : Two P Y a' b la' lb :=
  ⟨h.ext.then c fun x hx => (h.ha.blk_ge hx).1, ha, h.hb.chg c fun x hx hx' => h.ab x hx' hx, fun x hx hx' => by
    rcases hb with hb | ⟨z, hb, hz⟩
    · exact h.ab x (hb ▸ hx) hx'
    · rw [hb] at hx; simp only [Option.some.injEq] at hx; have := (h.hb.blk_ge hx').2; omega⟩
theorem Two.appB {P X Y : Heap} {a b b' : Sl} {la lb lb' : List UInt8} (h : Two P X a b la lb) (hb : OwnF B8 Y P.size 5 b' lb') (c : Chg (fun x => b.blk = some x) X Y) (hbb : b'.blk = b.blk ∨ ∃ z, b'.blk = some z ∧ X.size ≤ z) : Two P Y a b' la lb' :=
  ⟨h.ext.then c fun x hx => (h.hb.blk_ge hx).1, h.ha.chg c fun x hx hx' => h.ab x hx hx', hb, fun x hx hx' => by
    rcases hbb with hbb | ⟨z, hbb, hz⟩
    · exact h.ab x hx (hbb ▸ hx')
    · rw [hbb] at hx'; simp only [Option.some.injEq] at hx'; have := (h.ha.blk_ge hx).2; omega⟩
def AgR (H : Heap) (xs ys : List UInt8) (d some' : Nat) (v : Value) (H' : Heap) : Prop :=
  Ext H H' ∧ ((∃ (l : List Nat) (s : Sl), l ∈ pk (d + 1) xs.length ∧ some' ≤ agN (pickP xs ys l) xs ys xs.length ∧ v = .tuple #[s.val, .bool true] ∧ Mine H' H.size s (pickP xs ys l)) ∨
    ((∀ l ∈ pk (d + 1) xs.length, agN (pickP xs ys l) xs ys xs.length < some') ∧ v = .tuple #[Sl.nil.val, .bool false]))
set_option maxHeartbeats 4000000 in
theorem agreed_ok (s r : Sl) (xs ys : List UInt8) (d some' : Nat) (H : Heap) (hs : Bytes H s xs) (hr : Bytes H r ys) (hx : xs.length ≤ 20) (hl : xs.length ≤ ys.length) (hd : d ≤ 500) : CallsH Tryz.prog 62 [s.val, r.val, I64 d, I64 some'] H (AgR H xs ys d some') := by
  refine CallsH.enter h62 Tryz.func62 rfl rfl rfl (by decide) fun u => go ?_
  refine RegS.call (picks_ok (d + 1) xs.length H hx (by omega)) ?_
  rintro _ P ⟨q, qq, rfl, hQ, eP⟩
  have hQr := hQ.irows
  have hql := hQr.len
  have hPr := hQr.row
  have hsP := hs.ext eP
  have hrP := hr.ext eP
  have hpe := pk_each (d + 1) xs.length
  have hpl := pk_length (d + 1) xs.length
  have hpow : 2 ^ xs.length ≤ 2 ^ 20 := Nat.pow_le_pow_right (by decide) hx
  have hmem : ∀ i, i < (pk (d + 1) xs.length).length → (pk (d + 1) xs.length).getD i [] ∈ pk (d + 1) xs.length := fun i hi => by
    have : (pk (d + 1) xs.length).getD i [] = (pk (d + 1) xs.length)[i] := by simp [List.getD_eq_getElem?_getD, List.getElem?_eq_getElem hi]
    rw [this]; exact List.getElem_mem _
  have hall : ∀ l ∈ pk (d + 1) xs.length, ∃ i, i < (pk (d + 1) xs.length).length ∧ (pk (d + 1) xs.length).getD i [] = l := fun l hl => by
    obtain ⟨i, hi, he⟩ := List.getElem_of_mem hl
    exact ⟨i, hi, by simp [List.getD_eq_getElem?_getD, List.getElem?_eq_getElem hi, he]⟩
  refine go ?_
  refine Wp.loop (ι := Nat) (fun i => [(0, s.val), (1, r.val), (2, I64 d), (3, I64 some'), (10, q.val), (11, I64 i)]) (fun i A => i ≤ (pk (d + 1) xs.length).length ∧ Ext P A ∧ ∀ k, k < i → agN (pickP xs ys ((pk (d + 1) xs.length).getD k [])) xs ys xs.length < some') (fun i => (pk (d + 1) xs.length).length - i) 0 subs ⟨Nat.zero_le _, Ext.refl _, fun k h => absurd h (Nat.not_lt_zero _)⟩ ?_
  rintro i A0 ⟨hi, eA0, hbad⟩
  have hPr0 := hPr.ext eA0
  refine go ?_
  refine Wp.br (fun h => ?_) (fun h => ?_)
  case refine_2 =>
    refine go ?_
    refine ret2 ⟨eP.trans eA0, .inr ⟨fun l hl => ?_, rfl⟩⟩
    obtain ⟨k, hk, rfl⟩ := hall l hl
    exact hbad k (by omega)
  have hli := hpe _ (hmem i (by omega))
  have hlm := hmem i (by omega)
  have hPj := hQr.each i (by omega)
  generalize hld : (pk (d + 1) xs.length).getD i [] = l at hli hlm hPj
  obtain ⟨l1, l2, l3⟩ := hli
  refine go ?_
  refine Wp.loop (ι := Nat × Sl × Sl) (fun j => [(0, s.val), (1, r.val), (2, I64 d), (3, I64 some'), (10, q.val), (11, I64 i), (12, j.2.1.val), (13, j.2.2.val), (14, I64 j.1)]) (fun j A => j.1 ≤ l.length ∧ Two P A j.2.1 j.2.2 (pick xs (l.take j.1)) (pick ys (l.take j.1))) (fun j => l.length - j.1) (0, Sl.nil, Sl.nil) subs ⟨Nat.zero_le _, eA0, OwnR.nil _ _ _ _, OwnR.nil _ _ _ _, fun x h => by simp [Sl.blk, Sl.nil] at h⟩ ?_
  rintro ⟨j, a, b⟩ A ⟨hj, T⟩
  have hj : j ≤ l.length := hj
  have T : Two P A a b (pick xs (l.take j)) (pick ys (l.take j)) := T
  have hpa := pick_length xs (l.take j)
  have hpb := pick_length ys (l.take j)
  rw [List.length_take] at hpa hpb
  have q1 := hPr.ext T.ext
  have q2 := hPj.ext T.ext
  have q3 := hsP.ext T.ext
  have q4 := hrP.ext T.ext
  refine go ?_
  refine Wp.br (fun hjl => ?_) (fun hjl => ?_)
  · have hjl : (j : Int) < (l.length : Int) := hjl
    have hjl : j < l.length := by omega
    have hlj := l2 j hjl
    have hlj2 : l.getD j 0 < ys.length := by omega
    refine go ?_
    refine RegP.e (RegE.buildSlice (fun A1 o1 y1 w1 => ?_) (RegE.buildSlice (fun A1 o1 y1 w1 => ?_) RegE.nil))
    · -- in the text's order, or the other row begun ahead
      have T1 := T.ext' y1
      have ma : Mine A1 A.size (Sl.fresh A.size 1) [xs.getD (l.getD j 0) 0] := OwnR.mine (e := 5) o1
      have q1 := hPr.ext T1.ext
      have q2 := hPj.ext T1.ext
      have q3 := hsP.ext T1.ext
      have q4 := hrP.ext T1.ext
      refine go ?_
      refine RegP.e (RegE.append (f := B8) T1.ha ma.bytes (fun _ => rfl) (by have := T1.ext.size; omega) ?_ ?_ ?_ (RegE.buildSlice (fun A2 o2 y2 w2 => ?_) RegE.nil))
      · simp only [List.length_singleton]; omega
      · simp only [List.length_singleton]; omega
      · intro a' A2 ha' ca ba
        have T2 := T1.appA ha' ca ba
        have q1 := hPr.ext T2.ext
        have q2 := hPj.ext T2.ext
        have q3 := hsP.ext T2.ext
        have q4 := hrP.ext T2.ext
        refine ⟨.inr proms, ?_⟩
        refine go ?_
        refine RegP.buildSlice fun A3 o3 y3 w3 => ?_
        have mb : Mine A3 A2.size (Sl.fresh A2.size 1) [ys.getD (l.getD j 0) 0] := OwnR.mine (e := 5) o3
        have T3 := T2.ext' y3
        have q1 := hPr.ext T3.ext
        have q2 := hPj.ext T3.ext
        have q3 := hsP.ext T3.ext
        have q4 := hrP.ext T3.ext
        refine go ?_
        refine RegP.append (f := B8) T3.hb mb.bytes (fun _ => rfl) (by have := T3.ext.size; omega) ?_ ?_ ?_
        · simp only [List.length_singleton]; omega
        · simp only [List.length_singleton]; omega
        intro b' A4 hb' cb bb
        have T4 := T3.appB hb' cb bb
        have q1 := hPr.ext T4.ext
        have q2 := hPj.ext T4.ext
        have q3 := hsP.ext T4.ext
        have q4 := hrP.ext T4.ext
        refine ⟨.inr proms, ?_⟩
        refine go ?_
        refine roundQ_n (j + 1, a', b') subs ⟨by simp only; omega, ?_⟩ (by simp only; omega)
        show Two P _ _ _ (pick xs (l.take (j + 1))) (pick ys (l.take (j + 1)))
        rw [pick_take hjl, pick_take hjl]
        exact T4
      · have mb : Mine A2 A1.size (Sl.fresh A1.size 1) [ys.getD (l.getD j 0) 0] := OwnR.mine (e := 5) o2
        have T2 := T1.ext' y2
        have q1 := hPr.ext T2.ext
        have q2 := hPj.ext T2.ext
        have q3 := hsP.ext T2.ext
        have q4 := hrP.ext T2.ext
        refine go ?_
        refine RegP.append (f := B8) T2.ha (ma.ext y2).bytes (fun _ => rfl) (by have := T2.ext.size; omega) ?_ ?_ ?_
        · simp only [List.length_singleton]; omega
        · simp only [List.length_singleton]; omega
        intro a' A3 ha' ca ba
        have T3 := T2.appA ha' ca ba
        have q1 := hPr.ext T3.ext
        have q2 := hPj.ext T3.ext
        have q3 := hsP.ext T3.ext
        have q4 := hrP.ext T3.ext
        have mb' := mb.chg ca fun x hx hx' => by have := (mb.blk x hx).1; have := (T.ha.blk_ge hx').2; have := y1.size; omega
        refine ⟨.inr proms, ?_⟩
        refine go ?_
        refine RegP.append (f := B8) T3.hb mb'.bytes (fun _ => rfl) (by have := T3.ext.size; omega) ?_ ?_ ?_
        · simp only [List.length_singleton]; omega
        · simp only [List.length_singleton]; omega
        intro b' A4 hb' cb bb
        have T4 := T3.appB hb' cb bb
        have q1 := hPr.ext T4.ext
        have q2 := hPj.ext T4.ext
        have q3 := hsP.ext T4.ext
        have q4 := hrP.ext T4.ext
        refine ⟨.inr proms, ?_⟩
        refine go ?_
        refine roundQ_n (j + 1, a', b') subs ⟨by simp only; omega, ?_⟩ (by simp only; omega)
        show Two P _ _ _ (pick xs (l.take (j + 1))) (pick ys (l.take (j + 1)))
        rw [pick_take hjl, pick_take hjl]
        exact T4
    · -- the other row begun first
      have T1 := T.ext' y1
      have mb : Mine A1 A.size (Sl.fresh A.size 1) [ys.getD (l.getD j 0) 0] := OwnR.mine (e := 5) o1
      have q1 := hPr.ext T1.ext
      have q2 := hPj.ext T1.ext
      have q3 := hsP.ext T1.ext
      have q4 := hrP.ext T1.ext
      refine go ?_
      refine RegP.buildSlice fun A2 o2 y2 w2 => ?_
      have ma : Mine A2 A1.size (Sl.fresh A1.size 1) [xs.getD (l.getD j 0) 0] := OwnR.mine (e := 5) o2
      have T2 := T1.ext' y2
      have q1 := hPr.ext T2.ext
      have q2 := hPj.ext T2.ext
      have q3 := hsP.ext T2.ext
      have q4 := hrP.ext T2.ext
      refine go ?_
      refine RegP.append (f := B8) T2.ha ma.bytes (fun _ => rfl) (by have := T2.ext.size; omega) ?_ ?_ ?_
      · simp only [List.length_singleton]; omega
      · simp only [List.length_singleton]; omega
      intro a' A3 ha' ca ba
      have T3 := T2.appA ha' ca ba
      have q1 := hPr.ext T3.ext
      have q2 := hPj.ext T3.ext
      have q3 := hsP.ext T3.ext
      have q4 := hrP.ext T3.ext
      have mb' := (mb.ext y2).chg ca fun x hx hx' => by have := (mb.blk x hx).1; have := (T.ha.blk_ge hx').2; omega
      refine ⟨.inr proms, ?_⟩
      refine go ?_
      refine RegP.append (f := B8) T3.hb mb'.bytes (fun _ => rfl) (by have := T3.ext.size; omega) ?_ ?_ ?_
      · simp only [List.length_singleton]; omega
      · simp only [List.length_singleton]; omega
      intro b' A4 hb' cb bb
      have T4 := T3.appB hb' cb bb
      have q1 := hPr.ext T4.ext
      have q2 := hPj.ext T4.ext
      have q3 := hsP.ext T4.ext
      have q4 := hrP.ext T4.ext
      refine ⟨.inr proms, ?_⟩
      refine go ?_
      refine roundQ_n (j + 1, a', b') subs ⟨by simp only; omega, ?_⟩ (by simp only; omega)
      show Two P _ _ _ (pick xs (l.take (j + 1))) (pick ys (l.take (j + 1)))
      rw [pick_take hjl, pick_take hjl]
      exact T4
  have hjl : ¬ (j : Int) < (l.length : Int) := hjl
  have hjl : j = l.length := by omega
  subst hjl
  rw [List.take_length] at T hpa hpb
  have ma := OwnR.mine T.ha
  have mb := OwnR.mine T.hb
  have hpp := pickP_len (xs := xs) (ys := ys) l
  refine go ?_
  refine RegS.call (rthrough_ok a b _ _ A ma.bytes mb.bytes (by omega) (by omega)) ?_
  rintro _ A1 ⟨t, rfl, mt, e1⟩
  rw [show (pick xs l).length = l.length from pick_length _ _] at mt
  have mt : Mine A1 A.size t (pickP xs ys l) := mt
  have q3 := q3.ext e1
  have q4 := q4.ext e1
  have q1 := q1.ext e1
  refine go ?_
  refine RegS.call (agrees_ok t s r (pickP xs ys l) xs ys A1 mt.bytes q3 q4 (by omega) (by omega) hl) ?_
  rintro _ _ ⟨rfl, rfl⟩
  refine go ?_
  have eX := (eP.trans T.ext).trans e1
  refine Wp.br (fun hge => ?_) (fun hge => ?_) <;> refine go ?_
  · exact ret2 ⟨eX, .inl ⟨l, t, hlm, by omega, rfl, mt.low (eP.trans T.ext).size⟩⟩
  · refine roundQ_n (i + 1) subs ⟨by omega, T.ext.trans e1, fun k hk => ?_⟩ (by omega)
    by_cases e : k = i
    · subst e; rw [hld]; omega
    · exact hbad k (by omega)
end Go.Proofs.YtgmemfcfjlndoaaGreat
