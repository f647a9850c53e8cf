/-
  The laws of layer 3, walked: each returns true.
-/
import Derived.Test.YthoabhcaliggoaaVSolve3
import Derived.Test.YthoabhcaliggoaaVReduce
import Derived.Test.YthoabhcaliggoaaVLaws02
set_option linter.unusedVariables false
set_option linter.unusedSimpArgs false
namespace Go.Proofs.Ythoabhcaliggoaa
open Go Go.Vc Go.Gf

def smallP (ls : List (List UInt8)) : Prop := ls.length ≤ 30 ∧ ∀ k, k < ls.length → (ls.getD k []).length ≤ 30
theorem small_ok (s : Sl) (ss : List Sl) (ls : List (List UInt8)) (H : Heap) (hs : BRows H s ss ls) (hl : ls.length ≤ 9223372036854775807) : CallsH Try.prog 23 [s.val] H fun v H' => v = .bool (dec (smallP ls)) ∧ H = H' := by
  have hrow := hs.row
  have hlen := hs.len
  refine CallsH.enter h23 Try.func23 rfl rfl rfl (by decide) fun u => go ?_
  refine Wp.loop (ι := Nat) (fun i => [(0, s.val), (3, I64 i)]) (fun i A => i ≤ ls.length ∧ i ≤ 30 ∧ (∀ k, k < i → (ls.getD k []).length ≤ 30) ∧ H = A) (fun i => ls.length - i) 0 ⟨rfl, rfl, trivial⟩ ⟨by omega, by omega, fun k h => absurd h (by omega), rfl⟩ ?_
  rintro i _ ⟨hi, hi2, hall, rfl⟩
  refine go ?_
  refine RegS.sp (fun h => ?_) (fun h => ?_)
  · have hbi := hs.each i (by omega)
    refine go ?_
    refine Wp.br (fun h' => ?_) (fun h' => ?_) <;> refine go ?_
    · refine Wp.br (fun h2 => ?_) (fun h2 => ?_) <;> refine go ?_
      · refine ret1 ⟨?_, rfl⟩
        rw [dec_neg (fun k => by have := k.2 i (by omega); omega)]
      · refine roundQ_n (i + 1) ⟨rfl, rfl, trivial⟩ ⟨by omega, by omega, fun k hk => ?_, rfl⟩ (by omega)
        by_cases e : k = i
        · subst e; omega
        · exact hall k (by omega)
    · refine ret1 ⟨?_, rfl⟩
      congr 1
      refine dec_congr ⟨fun k => ?_, fun k => ?_⟩
      · exact absurd k (by omega)
      · have := k.1; omega
  · refine go ?_
    refine ret1 ⟨?_, rfl⟩
    congr 1
    refine dec_congr ⟨fun k => ⟨by omega, fun j hj => hall j (by omega)⟩, fun k => ?_⟩
    have := k.1; omega
theorem rightL_ok (s : Sl) (ss : List Sl) (ls : List (List UInt8)) (H : Heap) (hs : BRows H s ss ls) (hl : ls.length ≤ 1000) : CallsH Try.prog 27 [s.val] H fun v H' => v = .bool (dec (rect ls)) ∧ H = H' := by
  have hrow := hs.row
  have hlen := hs.len
  refine CallsH.enter h27 Try.func27 rfl rfl rfl (by decide) fun u => go ?_
  refine Wp.loop (ι := Nat) (fun i => [(0, s.val), (3, I64 i)]) (fun i A => i ≤ ls.length ∧ (∀ k, k < i → (ls.getD k []).length = (ls.getD 0 []).length) ∧ H = A) (fun i => ls.length - i) 0 ⟨rfl, rfl, trivial⟩ ⟨by omega, fun k h => absurd h (by omega), rfl⟩ ?_
  rintro i _ ⟨hi, hall, rfl⟩
  refine go ?_
  refine Wp.br (fun h => ?_) (fun h => ?_)
  · have hbi := hs.each i (by omega)
    have hb0 := hs.each 0 (by omega)
    refine go ?_
    refine Wp.br (fun h' => ?_) (fun h' => ?_) <;> refine go ?_
    · refine ret1 ⟨?_, rfl⟩
      rw [dec_neg (fun k => by have := k i (by omega); omega)]
    · refine roundQ_n (i + 1) ⟨rfl, rfl, trivial⟩ ⟨by omega, fun k hk => ?_, rfl⟩ (by omega)
      by_cases e : k = i
      · subst e; omega
      · exact hall k (by omega)
  · refine go ?_
    refine ret1 ⟨?_, rfl⟩
    rw [dec_pos (show rect ls from fun k hk => hall k (by omega))]

theorem with_ok (s r : Sl) (ss : List Sl) (rows : List (List UInt8)) (rhs : List UInt8) (H : Heap) (hs : BRows H s ss rows) (hr : Bytes H r rhs) (hl : rows.length = rhs.length) (hn : rows.length ≤ 1000) (hw : ∀ k, k < rows.length → (rows.getD k []).length ≤ 1000) :
    CallsH Try.prog 29 [s.val, r.val] H fun v H' => ∃ (t : Sl) (tt : List Sl), v = t.val ∧ BRows H' t tt (rowsB rows rhs rows.length) ∧ Ext H H' := by
  have hrow := hs.row
  have hlen := hs.len
  refine CallsH.enter h29 Try.func29 rfl rfl rfl (by decide) fun u => go ?_
  refine Wp.loop (ι := Nat × Sl × List Sl) (fun i => [(0, s.val), (1, r.val), (5, i.2.1.val), (6, I64 i.1)]) (fun i A => i.1 ≤ rows.length ∧ Mat A H.size 23 i.2.1 i.2.2 (rowsB rows rhs i.1) ∧ Ext H A) (fun i => rows.length - i.1) (0, Sl.nil, []) ⟨rfl, rfl, rfl, rfl, trivial⟩ ⟨Nat.zero_le _, Mat.nil _ _ _, Ext.refl _⟩ ?_
  rintro ⟨k, t, tt⟩ A ⟨hk, hM, eA⟩
  have hk : k ≤ rows.length := hk
  have hM : Mat A H.size 23 t tt (rowsB rows rhs k) := hM
  have hsA := hs.ext eA
  have hrA := hsA.row
  have hrh := hr.ext eA
  have zA := eA.size
  refine go ?_
  refine Wp.br (fun h => ?_) (fun h => ?_)
  case refine_2 =>
    have h : ¬ (k : Int) < (ss.length : Int) := h
    refine go ?_
    have : k = rows.length := by omega
    subst this
    exact ret1 ⟨t, tt, rfl, hM.brows, eA⟩
  have h : (k : Int) < (ss.length : Int) := h
  have hBk := hsA.each k (by omega)
  have hwk := hw k (by omega)
  refine go ?_
  refine RegP.e (RegE.buildSlice (fun A1 o1 y1 w1 => ?_) (RegE.buildSlice (fun A1 o1 y1 w1 => ?_) RegE.nil))
  · have hB1 := hBk.ext y1
    have hrh1 := hrh.ext y1
    refine go ?_
    refine RegP.e (RegE.append (f := B8) (l' := []) o1 hB1 (fun _ => rfl) (by omega) ?_ ?_ ?_ (RegE.buildSlice (fun A2 o2 y2 w2 => ?_) RegE.nil))
    · simp only [List.length_nil]; omega
    · simp only [List.length_nil]; omega
    · intro sc A2 oc c2 b2
      have x2 : Ext A A2 := y1.then c2 fun x hx => (o1.blk_ge hx).1
      have hrh2 := hrh.ext x2
      refine ⟨.inr proms, ?_⟩
      refine go ?_
      refine RegP.buildSlice fun AX o3 y3 w3 => ?_
      have mb : Mine AX A2.size (Sl.fresh A2.size 1) [rhs.getD k 0] := OwnR.mine (e := 5) o3
      have oc : OwnF B8 AX A.size 5 sc (rows.getD k []) := oc.ext y3
      have xX := x2.trans y3
      refine go ?_
      -- sc reads rows k, sb reads the byte, at heap AX, grown from A
      have hzX := xX.size
      refine RegP.append (f := B8) oc mb.bytes (fun _ => rfl) (by omega) ?_ ?_ ?_
      · simp only [List.length_singleton]; omega
      · simp only [List.length_singleton]; omega
      intro sr A5 or c5 b5
      have x5 : Ext A A5 := xX.then c5 fun x hx => by have := (oc.blk_ge hx).1; omega
      refine ⟨.inr proms, ?_⟩
      refine go ?_
      refine RegP.buildSlice fun A6 o6 y6 w6 => ?_
      have r6 : RowF Sl.val Sl.nil A6 (Sl.fresh A5.size 1) [sr] := OwnR.rowF (f := Sl.val) (l := [sr]) o6
      have hM6 := hM.ext (x5.trans y6)
      have hz6 := (x5.trans y6).size
      refine go ?_
      refine RegP.append (f := Sl.val) hM6.arr r6 (fun _ => rfl) (by omega) ?_ ?_ ?_
      · have := hM6.len; simp [rowsB] at this ⊢; omega
      · have := hM6.len; simp [rowsB] at this ⊢; omega
      intro t' A7 o7 c7 b7
      have mr : Mine A6 H.size sr (rows.getD k [] ++ [rhs.getD k 0]) := OwnR.mine (e := 5) ((or.ext y6).low (by omega))
      have hM7 := Mat.app (S := fun _ => False) hM6 mr (fun j x hj hx hx' => by have := ((hM.each j hj).blk x hx).2; have := (or.blk_ge hx').1; omega) (fun x hx hx' => by have := (hM.arr.blk_ge hx').2; have := (or.blk_ge hx).1; omega) o7 c7 b7
      refine ⟨.inr proms, ?_⟩
      refine go ?_
      refine roundQ_n (k + 1, t', tt ++ [sr]) ⟨rfl, rfl, rfl, rfl, trivial⟩ ⟨by simp only; omega, ?_, (eA.trans (x5.trans y6)).then c7 fun x hx => (hM6.arr.blk_ge hx).1⟩ (by simp only; omega)
      show Mat _ _ _ _ _ (rowsB rows rhs (k + 1))
      rw [rowsB_succ]
      exact hM7
    · have mb1 : Mine A2 A1.size (Sl.fresh A1.size 1) [rhs.getD k 0] := OwnR.mine (e := 5) o2
      refine go ?_
      refine RegP.append (f := B8) (l' := []) (o1.ext y2) (hB1.ext y2) (fun _ => rfl) (by have := y2.size; omega) ?_ ?_ ?_
      · simp only [List.length_nil]; omega
      · simp only [List.length_nil]; omega
      intro sc AX oc c3 b3
      have oc : OwnF B8 AX A.size 5 sc (rows.getD k []) := oc
      have xX : Ext A AX := (y1.trans y2).then c3 fun x hx => (o1.blk_ge hx).1
      have hrhX := hrh.ext xX
      have mb := mb1.chg c3 fun x hx hx' => by have := (mb1.blk x hx).1; have := (o1.blk_ge hx').2; omega
      refine ⟨.inr proms, ?_⟩
      refine go ?_
      -- sc reads rows k, sb reads the byte, at heap AX, grown from A
      have hzX := xX.size
      refine RegP.append (f := B8) oc mb.bytes (fun _ => rfl) (by omega) ?_ ?_ ?_
      · simp only [List.length_singleton]; omega
      · simp only [List.length_singleton]; omega
      intro sr A5 or c5 b5
      have x5 : Ext A A5 := xX.then c5 fun x hx => by have := (oc.blk_ge hx).1; omega
      refine ⟨.inr proms, ?_⟩
      refine go ?_
      refine RegP.buildSlice fun A6 o6 y6 w6 => ?_
      have r6 : RowF Sl.val Sl.nil A6 (Sl.fresh A5.size 1) [sr] := OwnR.rowF (f := Sl.val) (l := [sr]) o6
      have hM6 := hM.ext (x5.trans y6)
      have hz6 := (x5.trans y6).size
      refine go ?_
      refine RegP.append (f := Sl.val) hM6.arr r6 (fun _ => rfl) (by omega) ?_ ?_ ?_
      · have := hM6.len; simp [rowsB] at this ⊢; omega
      · have := hM6.len; simp [rowsB] at this ⊢; omega
      intro t' A7 o7 c7 b7
      have mr : Mine A6 H.size sr (rows.getD k [] ++ [rhs.getD k 0]) := OwnR.mine (e := 5) ((or.ext y6).low (by omega))
      have hM7 := Mat.app (S := fun _ => False) hM6 mr (fun j x hj hx hx' => by have := ((hM.each j hj).blk x hx).2; have := (or.blk_ge hx').1; omega) (fun x hx hx' => by have := (hM.arr.blk_ge hx').2; have := (or.blk_ge hx).1; omega) o7 c7 b7
      refine ⟨.inr proms, ?_⟩
      refine go ?_
      refine roundQ_n (k + 1, t', tt ++ [sr]) ⟨rfl, rfl, rfl, rfl, trivial⟩ ⟨by simp only; omega, ?_, (eA.trans (x5.trans y6)).then c7 fun x hx => (hM6.arr.blk_ge hx).1⟩ (by simp only; omega)
      show Mat _ _ _ _ _ (rowsB rows rhs (k + 1))
      rw [rowsB_succ]
      exact hM7
  · have mb1 : Mine A1 A.size (Sl.fresh A.size 1) [rhs.getD k 0] := OwnR.mine (e := 5) o1
    refine go ?_
    refine RegP.buildSlice fun A2 o2 y2 w2 => ?_
    refine go ?_
    refine RegP.append (f := B8) (l' := []) (o2.low y1.size) (hBk.ext (y1.trans y2)) (fun _ => rfl) (by have := y2.size; omega) ?_ ?_ ?_
    · simp only [List.length_nil]; omega
    · simp only [List.length_nil]; omega
    intro sc AX oc c3 b3
    have oc : OwnF B8 AX A.size 5 sc (rows.getD k []) := oc
    have xX : Ext A AX := (y1.trans y2).then c3 fun x hx => by have := (o2.blk_ge hx).1; have := y1.size; omega
    have hrhX := hrh.ext xX
    have mb := (mb1.ext y2).chg c3 fun x hx hx' => by have := (mb1.blk x hx).2; have := (o2.blk_ge hx').1; omega
    refine ⟨.inr proms, ?_⟩
    refine go ?_
    -- sc reads rows k, sb reads the byte, at heap AX, grown from A
    have hzX := xX.size
    refine RegP.append (f := B8) oc mb.bytes (fun _ => rfl) (by omega) ?_ ?_ ?_
    · simp only [List.length_singleton]; omega
    · simp only [List.length_singleton]; omega
    intro sr A5 or c5 b5
    have x5 : Ext A A5 := xX.then c5 fun x hx => by have := (oc.blk_ge hx).1; omega
    refine ⟨.inr proms, ?_⟩
    refine go ?_
    refine RegP.buildSlice fun A6 o6 y6 w6 => ?_
    have r6 : RowF Sl.val Sl.nil A6 (Sl.fresh A5.size 1) [sr] := OwnR.rowF (f := Sl.val) (l := [sr]) o6
    have hM6 := hM.ext (x5.trans y6)
    have hz6 := (x5.trans y6).size
    refine go ?_
    refine RegP.append (f := Sl.val) hM6.arr r6 (fun _ => rfl) (by omega) ?_ ?_ ?_
    · have := hM6.len; simp [rowsB] at this ⊢; omega
    · have := hM6.len; simp [rowsB] at this ⊢; omega
    intro t' A7 o7 c7 b7
    have mr : Mine A6 H.size sr (rows.getD k [] ++ [rhs.getD k 0]) := OwnR.mine (e := 5) ((or.ext y6).low (by omega))
    have hM7 := Mat.app (S := fun _ => False) hM6 mr (fun j x hj hx hx' => by have := ((hM.each j hj).blk x hx).2; have := (or.blk_ge hx').1; omega) (fun x hx hx' => by have := (hM.arr.blk_ge hx').2; have := (or.blk_ge hx).1; omega) o7 c7 b7
    refine ⟨.inr proms, ?_⟩
    refine go ?_
    refine roundQ_n (k + 1, t', tt ++ [sr]) ⟨rfl, rfl, rfl, rfl, trivial⟩ ⟨by simp only; omega, ?_, (eA.trans (x5.trans y6)).then c7 fun x hx => (hM6.arr.blk_ge hx).1⟩ (by simp only; omega)
    show Mat _ _ _ _ _ (rowsB rows rhs (k + 1))
    rw [rowsB_succ]
    exact hM7

theorem brows2 {H H' : Heap} {b : Nat} {s r : Sl} {l m : List UInt8} (o : OwnR H' b 23 1 (Sl.fresh b 2) [s.val, r.val]) (hs : Bytes H' s l) (hr : Bytes H' r m) : BRows H' (Sl.fresh b 2) [s, r] [l, m] := by
  refine ⟨OwnR.rowF (f := Sl.val) (l := [s, r]) o, rfl, fun k hk => ?_⟩
  match k with
  | 0 => exact hs
  | 1 => exact hr
  | k + 2 => simp at hk; omega
theorem rect2 {l m : List UInt8} (h : m.length = l.length) : rect [l, m] := by
  intro k hk
  match k with
  | 0 => rfl
  | 1 => exact h
  | k + 2 => simp at hk; omega
set_option maxRecDepth 100000 in
theorem known_slv : slvX [[1, 1], [0, 2]] 2 [3, 4] = [1, 2] ∧ (slv [[1, 1], [0, 2]] 2 [3, 4]).2.length = 2 ∧ (slv [[1], [1]] 1 [3, 4]).2.length = 1 ∧ (slv [[1], [1]] 1 [3, 4]).1 1 1 ≠ 0 ∧ (rankL [[1, 1], [2, 2]] 2).length = 1 := by decide +kernel
theorem answers03_ok (H : Heap) : CallsH Try.prog 24 [] H fun v H' => v = .bool true ∧ Ext H H' := by
  obtain ⟨k1, k2, k3, k4, k5⟩ := known_slv
  refine CallsH.enter h24 Try.func24 rfl rfl rfl (by decide) fun u => go ?_
  refine RegS.call (new_ok H) ?_
  rintro _ H1 ⟨fb, rfl, hF, e1⟩
  refine go ?_
  refine RegS.buildSlice fun H2 o2 e2 z2 => ?_
  have m2 : Mine H2 H1.size (Sl.fresh H1.size 2) [1, 1] := OwnR.mine (e := 5) o2
  refine go ?_
  refine RegS.buildSlice fun H3 o3 e3 z3 => ?_
  have m3 : Mine H3 H2.size (Sl.fresh H2.size 2) [0, 2] := OwnR.mine (e := 5) o3
  refine go ?_
  refine RegS.buildSlice fun H4 o4 e4 z4 => ?_
  have r4 := brows2 (H := H) o4 ((m2.ext e3).ext e4).bytes (m3.ext e4).bytes
  refine go ?_
  refine RegS.buildSlice fun H5 o5 e5 z5 => ?_
  have m5 : Mine H5 H4.size (Sl.fresh H4.size 2) [3, 4] := OwnR.mine (e := 5) o5
  have x5 : Ext H1 H5 := (e2.trans e3).trans (e4.trans e5)
  refine go ?_
  refine RegS.call (solve_ok fb _ _ _ _ _ H5 (hF.ext x5) (r4.ext e5) m5.bytes (by simp) (by simp)) ?_
  rintro _ H6 ⟨e6, ⟨h6, _⟩ | ⟨_, _, h6, _⟩ | ⟨_, _, _, h6, _⟩ | ⟨_, _, _, _, s6, rfl, m6⟩⟩
  · exact absurd ⟨rect2 rfl, rfl⟩ h6
  · exact absurd h6 (by decide)
  · refine absurd (fun i h1 h2 => ?_) h6
    have h1 : (slv [[1, 1], [0, 2]] 2 [3, 4]).2.length ≤ i := h1
    have h2 : i < 2 := h2
    omega
  have m6 : Mine H6 H5.size s6 (slvX [[1, 1], [0, 2]] 2 [3, 4]) := m6
  rw [k1] at m6
  have x6 := x5.trans e6
  refine go ?_
  refine RegS.buildSlice fun H7 o7 e7 z7 => ?_
  have m7 : Mine H7 H6.size (Sl.fresh H6.size 1) [1] := OwnR.mine (e := 5) o7
  refine go ?_
  refine RegS.buildSlice fun H8 o8 e8 z8 => ?_
  have m8 : Mine H8 H7.size (Sl.fresh H7.size 1) [1] := OwnR.mine (e := 5) o8
  refine go ?_
  refine RegS.buildSlice fun H9 o9 e9 z9 => ?_
  have r9 := brows2 (H := H) o9 ((m7.ext e8).ext e9).bytes (m8.ext e9).bytes
  refine go ?_
  refine RegS.buildSlice fun H10 o10 e10 z10 => ?_
  have m10 : Mine H10 H9.size (Sl.fresh H9.size 2) [3, 4] := OwnR.mine (e := 5) o10
  have x10 : Ext H1 H10 := x6.trans ((e7.trans e8).trans (e9.trans e10))
  refine go ?_
  refine RegS.call (solve_ok fb _ _ _ _ _ H10 (hF.ext x10) (r9.ext e10) m10.bytes (by simp) (by simp)) ?_
  rintro v11 H11 ⟨e11, h11⟩
  have hv : ∃ v4 : Sl, v11 = Value.tuple #[v4.val, .bool false] := by
    rcases h11 with ⟨_, rfl⟩ | ⟨_, _, h, _⟩ | ⟨_, _, _, _, rfl⟩ | ⟨_, _, _, h, _⟩
    · exact ⟨_, rfl⟩
    · exact absurd h (by decide)
    · exact ⟨_, rfl⟩
    · exact absurd (h 1 (by show (slv [[1], [1]] 1 [3, 4]).2.length ≤ 1; omega) (by decide)) k4
  obtain ⟨v4, rfl⟩ := hv
  have b11 := (((((m6.ext e7).ext e8).ext e9).ext e10).ext e11).bytes
  have x11 := x10.trans e11
  refine go ?_
  rw [dec_pos rfl]
  refine go ?_
  refine RegS.buildSlice fun H12 o12 e12 z12 => ?_
  have m12 : Mine H12 H11.size (Sl.fresh H11.size 2) [1, 1] := OwnR.mine (e := 5) o12
  refine go ?_
  refine RegS.buildSlice fun H13 o13 e13 z13 => ?_
  have m13 : Mine H13 H12.size (Sl.fresh H12.size 2) [2, 2] := OwnR.mine (e := 5) o13
  refine go ?_
  refine RegS.buildSlice fun H14 o14 e14 z14 => ?_
  have r14 := brows2 (H := H) o14 ((m12.ext e13).ext e14).bytes (m13.ext e14).bytes
  have x14 := x11.trans ((e12.trans e13).trans e14)
  refine go ?_
  refine RegS.call (rank_ok fb _ _ _ H14 (hF.ext x14) r14 (by simp) (by simp)) ?_
  rintro _ H15 ⟨rfl, e15⟩
  have hr : rankN [[1, 1], [2, 2]] = 1 := by rw [rankN, if_pos (show rect [[1, 1], [2, 2]] from rect2 rfl)]; exact k5
  rw [hr]
  refine go ?_
  refine ret1 ⟨?_, (e1.trans x14).trans e15⟩
  rw [dec_pos rfl]
theorem out03 {H A : Heap} (e : Ext H A) : CallsH Try.prog 24 [] A fun v H' => v = .bool true ∧ Ext H H' := (answers03_ok A).mono fun v H' h => ⟨h.1, e.trans h.2⟩

theorem smallP_zero {ls : List (List UInt8)} (h : smallP ls) : (ls.getD 0 []).length ≤ 30 := by
  by_cases h0 : 0 < ls.length
  · exact h.2 0 h0
  · have : ls = [] := List.eq_nil_of_length_eq_zero (by omega)
    subst this
    simp

theorem solveRanks_ok (s : Sl) (ss : List Sl) (rows : List (List UInt8)) (H : Heap) (hs : BRows H s ss rows) (hl : rows.length ≤ 9223372036854775807) : CallsH Try.prog 4 [s.val] H (True' H) := by
  refine CallsH.enter h4 Try.func4 rfl rfl rfl (by decide) fun u => go ?_
  refine RegS.call (small_ok s ss rows H hs hl) ?_
  rintro _ _ ⟨rfl, rfl⟩
  by_cases hsm : smallP rows
  case neg =>
    rw [dec_neg hsm]
    refine go ?_
    refine RegS.call (out03 (Ext.refl H)) ?_
    rintro _ H1 ⟨rfl, e1⟩
    refine go ?_
    exact ret1 ⟨rfl, e1⟩
  rw [dec_pos hsm]
  have h0 := smallP_zero hsm
  have h1 := hsm.1
  refine go ?_
  refine RegS.call (new_ok H) ?_
  rintro _ H1 ⟨fb, rfl, hF, e1⟩
  refine go ?_
  refine RegS.call (rank_ok fb s ss rows H1 hF (hs.ext e1) (by omega) (by omega)) ?_
  rintro _ H2 ⟨rfl, e2⟩
  have x2 := e1.trans e2
  refine go ?_
  refine RegS.call (rightL_ok s ss rows H2 (hs.ext x2) (by omega)) ?_
  rintro _ _ ⟨rfl, rfl⟩
  by_cases hr : rect rows
  case neg =>
    have hn : rankN rows = 0 := by rw [rankN, if_neg hr]
    rw [dec_neg hr, hn]
    refine go ?_
    refine RegS.call (out03 x2) ?_
    rintro _ H3 ⟨rfl, e3⟩
    refine go ?_
    exact ret1 ⟨congrArg Value.bool (dec_pos rfl), e3⟩
  rw [dec_pos hr]
  have hn : rankN rows = (rankL rows (rows.getD 0 []).length).length := by rw [rankN, if_pos hr]
  rw [hn]
  refine go ?_
  refine RegS.call (rreduce_ok s ss rows H2 (hs.ext x2) hr (by omega) (by omega)) ?_
  rintro _ H3 ⟨t, O, rfl, hO, e3⟩
  have x3 := x2.trans e3
  refine go ?_
  refine RegS.call (out03 (Ext.refl H3)) ?_
  rintro _ H4 ⟨rfl, e4⟩
  have hO4 := hO.ext e4
  refine go ?_
  exact ret1 ⟨congrArg Value.bool (dec_pos rfl), x3.trans e4⟩

/-- What the laws make of the rows: each row's sum. -/
def dots (rows : List (List UInt8)) (x : List UInt8) (k : Nat) : List UInt8 := mk k fun i => dotN (gM rows) (fun j => x.getD j 0) x.length i
theorem dots_succ (rows : List (List UInt8)) (x : List UInt8) (k : Nat) : dots rows x (k + 1) = dots rows x k ++ [dotN (gM rows) (fun j => x.getD j 0) x.length k] := mk_succ _ _
theorem getD_none2 {l : List (List UInt8)} {i : Nat} (h : l.length ≤ i) : l.getD i [] = [] := by simp [List.getD_eq_getElem?_getD, List.getElem?_eq_none h]
theorem rowsB_gM {rows : List (List UInt8)} {rhs : List UInt8} (hr : rect rows) (hl : rhs.length = rows.length) : ∀ i j, j < (rows.getD 0 []).length + 1 → gM (rowsB rows rhs rows.length) i j = aug rows (rows.getD 0 []).length rhs i j := by
  intro i j hj
  rw [rowsB_all hr]
  by_cases hi : i < rows.length
  · exact mk2_get hi hj
  · have e1 : gM (mk2 rows.length ((rows.getD 0 []).length + 1) (aug rows (rows.getD 0 []).length rhs)) i j = 0 := by
      unfold gM
      have : (mk2 rows.length ((rows.getD 0 []).length + 1) (aug rows (rows.getD 0 []).length rhs)).getD i [] = [] := getD_none2 (by rw [mk2_length]; omega)
      rw [this]; rfl
    rw [e1]
    unfold aug gM
    split
    · have : rows.getD i [] = [] := getD_none2 (by omega)
      rw [this]; rfl
    · exact (getD_ge (by omega)).symm
theorem rowsB_row {rows : List (List UInt8)} {rhs : List UInt8} {k : Nat} (hk : k < rows.length) : (rowsB rows rhs rows.length).getD k [] = rows.getD k [] ++ [rhs.getD k 0] := by
  simp [rowsB, List.getD_eq_getElem?_getD, List.getElem?_range, hk]
theorem rowsB_rect {rows : List (List UInt8)} {rhs : List UInt8} (hr : rect rows) : rect (rowsB rows rhs rows.length) := by
  intro k hk
  have hk' : k < rows.length := by simpa [rowsB] using hk
  rw [rowsB_row hk', rowsB_row (show 0 < rows.length by omega), List.length_append, List.length_append, hr k hk']
  rfl

set_option maxHeartbeats 2000000 in
theorem solveSolves_ok (s r : Sl) (ss : List Sl) (rows : List (List UInt8)) (rhs : List UInt8) (H : Heap) (hs : BRows H s ss rows) (hr : Bytes H r rhs) (hl : rows.length ≤ 9223372036854775807) (hl2 : rhs.length ≤ 140737488351232) : CallsH Try.prog 3 [s.val, r.val] H (True' H) := by
  refine CallsH.enter h3 Try.func3 rfl rfl rfl (by decide) fun u => go ?_
  refine RegS.call (small_ok s ss rows H hs hl) ?_
  rintro _ _ ⟨rfl, rfl⟩
  have hlen := hs.len
  by_cases hsm : smallP rows
  case neg =>
    rw [dec_neg hsm]
    refine go ?_
    refine RegS.call (out03 (Ext.refl H)) ?_
    rintro _ H1 ⟨rfl, e1⟩
    refine go ?_
    exact ret1 ⟨rfl, e1⟩
  rw [dec_pos hsm]
  have h0 := smallP_zero hsm
  have h1 := hsm.1
  refine go ?_
  refine RegS.call (new_ok H) ?_
  rintro _ H1 ⟨fb, rfl, hF, e1⟩
  refine go ?_
  refine RegS.call (solve_ok fb s r ss rows rhs H1 hF (hs.ext e1) (hr.ext e1) (by omega) (by omega)) ?_
  rintro v2 H2 ⟨e2, h2⟩
  have x2 := e1.trans e2
  have hrow2 := (hs.ext x2).row
  have hr2 := hr.ext x2
  by_cases hrc : rect rows
  case neg =>
    have hv : v2 = .tuple #[Sl.nil.val, .bool false] := by
      rcases h2 with ⟨_, h⟩ | ⟨h, _⟩ | ⟨h, _⟩ | ⟨h, _⟩
      · exact h
      · exact absurd h hrc
      · exact absurd h hrc
      · exact absurd h hrc
    subst hv
    refine go ?_
    refine RegS.call (rightL_ok s ss rows H2 (hs.ext x2) (by omega)) ?_
    rintro _ _ ⟨rfl, rfl⟩
    rw [dec_neg hrc]
    refine go ?_
    refine RegS.call (out03 x2) ?_
    rintro _ H3 ⟨rfl, e3⟩
    refine go ?_
    exact ret1 ⟨congrArg Value.bool (dec_pos rfl), e3⟩
  by_cases hll : rhs.length = rows.length
  case neg =>
    have hv : v2 = .tuple #[Sl.nil.val, .bool false] := by
      rcases h2 with ⟨_, h⟩ | ⟨_, h, _⟩ | ⟨_, h, _⟩ | ⟨_, h, _⟩
      · exact h
      · exact absurd h hll
      · exact absurd h hll
      · exact absurd h hll
    subst hv
    refine go ?_
    refine RegS.call (rightL_ok s ss rows H2 (hs.ext x2) (by omega)) ?_
    rintro _ _ ⟨rfl, rfl⟩
    rw [dec_pos hrc]
    refine go ?_
    refine RegS.call (out03 x2) ?_
    rintro _ H3 ⟨rfl, e3⟩
    refine go ?_
    exact ret1 ⟨congrArg Value.bool (dec_pos rfl), e3⟩
  by_cases hne : rows.length = 0
  · have hv : v2 = .tuple #[Sl.nil.val, .bool true] := by
      rcases h2 with ⟨h, _⟩ | ⟨_, _, _, h⟩ | ⟨_, _, h, _⟩ | ⟨_, _, h, _⟩
      · exact absurd ⟨hrc, hll⟩ h
      · exact h
      · exact absurd hne h
      · exact absurd hne h
    subst hv
    refine go ?_
    refine RegS.call (rightL_ok s ss rows H2 (hs.ext x2) (by omega)) ?_
    rintro _ _ ⟨rfl, rfl⟩
    rw [dec_pos hrc]
    refine go ?_
    refine RegS.call (out03 x2) ?_
    rintro _ H3 ⟨rfl, e3⟩
    refine go ?_
    exact ret1 ⟨congrArg Value.bool (dec_pos rfl), e3⟩
  have hgM := rowsB_gM hrc hll
  have hrR := rowsB_rect (rhs := rhs) hrc
  have hrow0 : ((rowsB rows rhs rows.length).getD 0 []).length = (rows.getD 0 []).length + 1 := by rw [rowsB_row (by omega), List.length_append]; rfl
  have hlB : (rowsB rows rhs rows.length).length = rows.length := by simp [rowsB]
  have hall : (redF (rowsB rows rhs rows.length).length (gM (rowsB rows rhs rows.length)) ((rowsB rows rhs rows.length).getD 0 []).length).2 = (redF rows.length (aug rows (rows.getD 0 []).length rhs) ((rows.getD 0 []).length + 1)).2 := by
    rw [hrow0, hlB]
    exact (redF_cols hgM _ (Nat.le_refl _)).1
  have hlast := redF_last (m := rows) (n := (rows.getD 0 []).length) (b := rhs)
  have hupR := rankL_up rows (rows.getD 0 []).length
  have hltR := rankL_lt rows (rows.getD 0 []).length
  have hfree := fun j => slv_free (m := rows) (n := (rows.getD 0 []).length) (b := rhs) (j := j)
  have hsolves := slv_solves (m := rows) (n := (rows.getD 0 []).length) (b := rhs)
  have hxl : (slvX rows (rows.getD 0 []).length rhs).length = (rows.getD 0 []).length := mk_length _ _
  have red : ∀ A, Ext H A → CallsH Try.prog 28 [s.val] A fun v H' => ∃ t O : Sl, v = .tuple #[t.val, O.val] ∧ RowF I64 0 H' O (rankL rows (rows.getD 0 []).length) ∧ Ext A H' := fun A e => rreduce_ok s ss rows A (hs.ext e) hrc (by omega) (by omega)
  have hw30 : ∀ k, k < rows.length → (rows.getD k []).length = (rows.getD 0 []).length := hrc
  have hrk : (rankL rows (rows.getD 0 []).length).length ≤ rows.length := (redF_plain rows.length (gM rows) _).le
  have hrk2 : (redF rows.length (aug rows (rows.getD 0 []).length rhs) ((rows.getD 0 []).length + 1)).2.length ≤ rows.length := (redF_plain rows.length _ _).le
  generalize hn : (rows.getD 0 []).length = n at *
  generalize rankL rows n = own at *
  generalize slvX rows n rhs = xs at *
  have step1 : ∀ {v2 : Value} {w : Sl} {ok : Bool}, True := trivial
  obtain ⟨h, _⟩ | ⟨_, _, h, _⟩ | ⟨_, _, _, hso, rfl⟩ | ⟨_, _, _, hso, x, rfl, mx⟩ := h2
  · exact absurd ⟨hrc, hll⟩ h
  · exact absurd h hne
  · refine go ?_
    refine RegS.call (rightL_ok s ss rows H2 (hs.ext x2) (by omega)) ?_
    rintro _ _ ⟨rfl, rfl⟩
    rw [dec_pos hrc]
    refine go ?_
    refine RegS.call (red H2 x2) ?_
    rintro _ H3 ⟨t, O, rfl, hO, e3⟩
    have x3 := x2.trans e3
    refine go ?_
    refine RegS.call (with_ok s r ss rows rhs H3 (hs.ext x3) (hr.ext x3) hll.symm (by omega) (fun k hk => by rw [hw30 k hk]; omega)) ?_
    rintro _ H4 ⟨tw, ttw, rfl, hw, e4⟩
    refine go ?_
    refine RegS.call (rreduce_ok tw ttw _ H4 hw hrR (by omega) (by omega)) ?_
    rintro _ H5 ⟨t5, O5, rfl, hO5, e5⟩
    rw [hall] at hO5
    have hO' := (hO.ext e4).ext e5
    have hgt := hlast.2 hso
    have x5 := (x3.trans e4).trans e5
    refine go ?_
    refine RegS.call (out03 x5) ?_
    rintro _ H6 ⟨rfl, e6⟩
    refine go ?_
    exact ret1 ⟨congrArg Value.bool (dec_pos rfl), e6⟩
  refine go ?_
  refine RegS.call (rightL_ok s ss rows H2 (hs.ext x2) (by omega)) ?_
  rintro _ _ ⟨rfl, rfl⟩
  rw [dec_pos hrc]
  refine go ?_
  refine RegS.call (red H2 x2) ?_
  rintro _ H3 ⟨t, O, rfl, hO, e3⟩
  have x3 := x2.trans e3
  refine go ?_
  refine RegS.call (with_ok s r ss rows rhs H3 (hs.ext x3) (hr.ext x3) hll.symm (by omega) (fun k hk => by rw [hw30 k hk]; omega)) ?_
  rintro _ H4 ⟨tw, ttw, rfl, hw, e4⟩
  refine go ?_
  refine RegS.call (rreduce_ok tw ttw _ H4 hw hrR (by omega) (by omega)) ?_
  rintro _ H5 ⟨t5, O5, rfl, hO5, e5⟩
  rw [hall] at hO5
  have hO' := (hO.ext e4).ext e5
  have hgt : ¬ own.length < (redF rows.length (aug rows n rhs) (n + 1)).2.length := fun k => hlast.1 k hso
  have x5 := (x3.trans e4).trans e5
  have bx := ((mx.ext e3).ext e4).ext e5 |>.bytes
  have hs5 := hs.ext x5
  have hrow5 := hs5.row
  have hr5 := hr.ext x5
  have hB0 := hs5.each 0 (by omega)
  have hsol := hsolves hso
  clear hall hlast hgM red
  refine go ?_
  refine Wp.loop (ι := Nat) (fun i => [(0, s.val), (1, r.val), (5, x.val), (8, O.val), (11, I64 i)]) (fun i A => i ≤ rows.length ∧ H5 = A) (fun i => rows.length - i) 0 ⟨rfl, rfl, rfl, rfl, rfl, trivial⟩ ⟨Nat.zero_le _, rfl⟩ ?_
  rintro i _ ⟨hi, rfl⟩
  refine go ?_
  refine Wp.br (fun hil => ?_) (fun hil => ?_) <;> refine go ?_
  · have hBi := hs5.each i (by omega)
    have hwi := hw30 i (by omega)
    refine Wp.loop (ι := Nat) (fun j => [(0, s.val), (1, r.val), (5, x.val), (8, O.val), (11, I64 i), (12, B8 (dotN (gM rows) (fun j => xs.getD j 0) j i)), (13, I64 j)]) (fun j A => j ≤ n ∧ H5 = A) (fun j => n - j) 0 ⟨rfl, rfl, rfl, rfl, rfl, rfl, rfl, trivial⟩ ⟨Nat.zero_le _, rfl⟩ ?_
    rintro j _ ⟨hj, rfl⟩
    refine go ?_
    refine Wp.br (fun hjl => ?_) (fun hjl => ?_) <;> refine go ?_
    · refine RegP.call (rmul_ok _ _ H5) ?_
      rintro _ _ ⟨rfl, rfl⟩
      refine ⟨.inl (Ext.refl _), ?_⟩
      refine go ?_
      exact roundQ_n (j + 1) ⟨rfl, rfl, rfl, rfl, rfl, rfl, rfl, trivial⟩ ⟨by omega, rfl⟩ (by omega)
    · have : j = n := by omega
      subst this
      rw [hsol i (by omega)]
      refine Wp.br (fun hbad => absurd rfl hbad) (fun _ => ?_)
      refine go ?_
      exact roundQ_n (i + 1) ⟨rfl, rfl, rfl, rfl, rfl, trivial⟩ ⟨by omega, rfl⟩ (by omega)
  · refine Wp.loop (ι := Nat × Nat) (fun i => [(5, x.val), (8, O.val), (14, I64 i.1), (15, I64 i.2)]) (fun i A => i.2 ≤ n ∧ i.1 ≤ own.length ∧ (∀ t, t < i.1 → own.getD t 0 < i.2) ∧ (∀ t, i.1 ≤ t → t < own.length → i.2 ≤ own.getD t 0) ∧ H5 = A) (fun i => n - i.2) (0, 0) ⟨rfl, rfl, rfl, rfl, trivial⟩ ⟨Nat.zero_le _, Nat.zero_le _, fun t h => absurd h (Nat.not_lt_zero _), fun t _ _ => Nat.zero_le _, rfl⟩ ?_
    rintro ⟨k, j⟩ _ ⟨hj, hk, hlo, hhi, rfl⟩
    have hj : j ≤ n := hj
    have hk : k ≤ own.length := hk
    have hlo : ∀ t, t < k → own.getD t 0 < j := hlo
    have hhi : ∀ t, k ≤ t → t < own.length → j ≤ own.getD t 0 := hhi
    refine go ?_
    refine Wp.br (fun hjl => ?_) (fun hjl => ?_)
    case refine_2 =>
      refine go ?_
      refine RegS.call (out03 x5) ?_
      rintro _ H6 ⟨rfl, e6⟩
      refine go ?_
      exact ret1 ⟨rfl, e6⟩
    have hjl : (j : Int) < (xs.length : Int) := hjl
    have other : (k < own.length → own.getD k 0 ≠ j) → xs.getD j 0 = 0 := fun hne' => hfree j fun t ht => by
      by_cases h1 : t < k
      · have := hlo t h1; omega
      · by_cases h2 : t = k
        · subst h2; exact hne' ht
        · have := hupR k t (by omega) ht
          have := hhi k (Nat.le_refl _) (by omega)
          have := hne' (by omega)
          omega
    refine go ?_
    refine RegS.sp (fun hkl => ?_) (fun hkl => ?_)
    · have hkl : (k : Int) < (own.length : Int) := hkl
      refine go ?_
      refine Wp.br (fun heq => ?_) (fun heq => ?_)
      · have heq : (own.getD k 0 : Int) = (j : Int) := heq
        refine go ?_
        refine roundQ_n (k + 1, j + 1) ⟨rfl, rfl, rfl, rfl, trivial⟩ ⟨by simp only; omega, by simp only; omega, fun t ht => ?_, fun t ht htl => ?_, rfl⟩ (by simp only; omega)
        · have ht : t < k + 1 := ht
          show own.getD t 0 < j + 1
          by_cases h1 : t < k
          · have := hlo t h1; omega
          · have : t = k := by omega
            subst this; omega
        · have ht : k + 1 ≤ t := ht
          show j + 1 ≤ own.getD t 0
          have := hupR k t (by omega) htl
          omega
      · have heq : ¬ (own.getD k 0 : Int) = (j : Int) := heq
        have hz := other fun _ => by omega
        refine go ?_
        refine Wp.br (fun hbad => absurd hz hbad) (fun _ => ?_)
        refine go ?_
        refine roundQ_n (k, j + 1) ⟨rfl, rfl, rfl, rfl, trivial⟩ ⟨by simp only; omega, hk, fun t ht => by have := hlo t ht; show own.getD t 0 < j + 1; omega, fun t ht htl => ?_, rfl⟩ (by simp only; omega)
        have ht : k ≤ t := ht
        show j + 1 ≤ own.getD t 0
        have := hhi t ht htl
        by_cases h2 : t = k
        · subst h2; omega
        · have := hupR k t (by omega) htl
          have := hhi k (Nat.le_refl _) (by omega)
          omega
    · have hkl : ¬ (k : Int) < (own.length : Int) := hkl
      have hz := other fun h => absurd h (by omega)
      refine go ?_
      refine Wp.br (fun hbad => absurd hz hbad) (fun _ => ?_)
      refine go ?_
      exact roundQ_n (k, j + 1) ⟨rfl, rfl, rfl, rfl, trivial⟩ ⟨by simp only; omega, hk, fun t ht => by have := hlo t ht; show own.getD t 0 < j + 1; omega, fun t ht htl => absurd htl (by have ht : k ≤ t := ht; omega), rfl⟩ (by simp only; omega)
end Go.Proofs.Ythoabhcaliggoaa
