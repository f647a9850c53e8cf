/-
  The walk of package solve's reduce.
-/
import Derived.Test.YtgmemfcfjlndoaaGreatVSolve
set_option linter.unusedVariables false
set_option linter.unusedSimpArgs false
namespace Go.Proofs.YtgmemfcfjlndoaaGreat
open Go Go.Vc Go.Gf

theorem reduce1_ok (b k : Nat) (s : Sl) (l : List UInt8) (H : Heap) (hb : Box H b 3 (I64 k)) (hs : Bytes H s l) (hk : k < l.length) : CallsH Tryz.prog 285 [s.val, .pointer (some ⟨b, 0, none⟩)] H fun v H' => v = .bool (dec (l.getD k 0 ≠ 0)) ∧ H = H' := by
  refine CallsH.enter h285 Tryz.func285 rfl rfl rfl (by decide) fun u => go ?_
  exact ret1 ⟨rfl, rfl⟩

def elmN (g : M) (k c n : Nat) : M := fun i j => if i ≠ k ∧ i < n then g i j ^^^ gmul (g i c) (g k j) else g i j
theorem getD_cut {ss : List Sl} {n a j : Nat} (h : a + j < n) : ((ss.take n).drop a).getD j Sl.nil = ss.getD (a + j) Sl.nil := by
  simp [List.getD_eq_getElem?_getD, List.getElem?_drop, List.getElem?_take, h]

set_option maxHeartbeats 1000000 in
theorem reduce_ok (b fb top : Nat) (t : Sl) (ss : List Sl) (R W : Nat) (f : M) (c : Nat) (H : Heap) (h : Sys H b fb top t ss (mk2 R W f) Sl.nil []) (htop : top ≤ H.size) (hc : c ≤ W) (hR : R ≤ 1000000) (hW : W ≤ 1000000) :
    CallsH Tryz.prog 279 [sysV b, I64 c] H fun v H' => v = .tuple #[] ∧ ∃ ss' O', Sys H' b fb top t ss' (mk2 R W (redF R f c).1) O' (redF R f c).2 ∧ Chg (fun x => b ≤ x) H H' := by
  refine CallsH.enter h279 Tryz.func279 rfl rfl rfl (by decide) fun u => go ?_
  refine Wp.loop (ι := Nat × List Sl × Sl) (fun i => [(0, sysV b), (11, I64 c), (12, I64 i.1)]) (fun i A => i.1 ≤ c ∧ Sys A b fb top t i.2.1 (mk2 R W (redF R f i.1).1) i.2.2 (redF R f i.1).2 ∧ Chg (fun x => b ≤ x) H A) (fun i => c - i.1) (0, ss, Sl.nil) ⟨rfl, rfl, rfl, trivial⟩ ⟨Nat.zero_le _, h, Chg.refl _ _⟩ ?_
  rintro ⟨k, ss, O⟩ A ⟨hk, hS, cA⟩
  have hk : k ≤ c := hk
  have hS : Sys A b fb top t ss (mk2 R W (redF R f k).1) O (redF R f k).2 := hS
  have P := redF_plain R f k
  have hnext : redF R f (k + 1) = stepF R k (redF R f k) := rfl
  generalize hred : redF R f k = gs at hS P hnext
  obtain ⟨g, own⟩ := gs
  simp only at hS P
  refine go ?_
  refine Wp.br (fun hlt => ?_) (fun hlt => ?_)
  case refine_2 =>
    have hlt : ¬ (k : Int) < (c : Int) := hlt
    refine go ?_
    have : k = c := by omega
    subst this
    rw [hred]
    exact ret0n ⟨rfl, ss, O, hS, cA⟩
  have hlt : (k : Int) < (c : Int) := hlt
  have hsl : ss.length = R := by have := hS.mat.len; rwa [mk2_length] at this
  have hat := P.le
  have hatop : top ≤ A.size := Nat.le_trans htop cA.size
  refine go ?_
  refine RegS.alloc (fun A1 e1 z1 b1 => ?_)
  refine go ?_
  refine RegS.store (v := I64 k) (Box.wr ⟨b1⟩) ?_
  have x2 : Box (hset A1 ⟨A.size, 0, none⟩ (I64 k)) A.size 3 (I64 k) := Box.set ⟨b1⟩
  have e2 : Ext A (hset A1 ⟨A.size, 0, none⟩ (I64 k)) := e1.then (hset_chg _ _ _) fun y hy => by simp at hy; omega
  have z2 : (hset A1 ⟨A.size, 0, none⟩ (I64 k)).size = A.size + 1 := by rw [hset_size, z1]
  generalize hset A1 ⟨A.size, 0, none⟩ (I64 k) = A2 at x2 e2 z2
  have hS2 := hS.ext e2
  have c2 : Chg (fun x => b ≤ x) H A2 := cA.trans (e2.chg _)
  have hb := hS2.blk
  have hrow := hS2.row
  have hown := hS2.owns
  have htl := hrow.len
  refine go ?_
  refine RegS.cut own.length t.len t.cap (.inr ⟨_, _, rfl, rfl⟩) (.inl ⟨rfl, rfl, rfl⟩) (.inl ⟨rfl, rfl⟩) ⟨by omega, t.le, Nat.le_refl _⟩ ?_
  have hcut := hrow.cut (l := own.length) (h := t.len) (m := t.cap) ⟨by omega, t.le, Nat.le_refl _⟩ (by omega)
  have hcl : ((ss.take t.len).drop own.length).length = R - own.length := by simp; omega
  have asks : Asks 285 [.pointer (some ⟨A.size, 0, none⟩)] ((ss.take t.len).drop own.length) (fun i => g (own.length + i) k ≠ 0) A2 := by
    intro i hi
    rw [hcl] at hi
    rw [getD_cut (by omega)]
    have hB := hS2.mat.bytes (k := own.length + i) (by rw [mk2_length]; omega)
    rw [mk2_row (show own.length + i < R by omega)] at hB
    refine (reduce1_ok A.size k _ _ A2 x2 hB (by rw [mk_length]; omega)).mono ?_
    rintro v H' ⟨rfl, rfl⟩
    rw [mk_getD, if_pos (show k < W by omega)]
    exact ⟨rfl, rfl⟩
  refine go ?_
  refine RegS.call (indexFunc_ok 285 [.pointer (some ⟨A.size, 0, none⟩)] _ _ _ A2 hcut asks (by omega)) ?_
  obtain ⟨f1, f2, f3, f4⟩ := find_spec (f := g) (c := k) P.le
  rintro _ _ ⟨⟨rfl, hno⟩ | ⟨i, hi, rfl, hyes, hbef⟩, rfl⟩
  · rw [hcl] at hno
    have hfind : ¬ find g k R own.length < R := fun hf => by
      have : ¬ g (own.length + (find g k R own.length - own.length)) k ≠ 0 := hno _ (by omega)
      rw [show own.length + (find g k R own.length - own.length) = find g k R own.length by omega] at this
      exact this (f4 hf)
    refine go ?_
    refine roundQ_n (k + 1, ss, O) ⟨rfl, rfl, rfl, trivial⟩ ⟨by simp only; omega, ?_, c2⟩ (by simp only; omega)
    have hst : stepF R k (g, own) = (g, own) := by unfold stepF; rw [if_neg hfind]
    rw [hnext, hst]
    exact hS2
  rw [hcl] at hi
  have hfind : find g k R own.length = own.length + i := by
    rcases Nat.lt_trichotomy (find g k R own.length) (own.length + i) with h1 | h1 | h1
    · have : ¬ g (own.length + (find g k R own.length - own.length)) k ≠ 0 := hbef _ (by omega)
      rw [show own.length + (find g k R own.length - own.length) = find g k R own.length by omega] at this
      exact absurd (f4 (by omega)) this
    · exact h1
    · exact absurd (f3 (own.length + i) (by omega) h1) hyes
  have hst : stepF R k (g, own) = (piv g own.length (own.length + i) k, own ++ [k]) := by
    unfold stepF; rw [if_pos (by rw [hfind]; omega)]; simp only [hfind]
  refine go ?_
  refine RegP.store (hS2.mat.arr.wr (j := own.length) (by simp; omega)) ?_ ?_
  · exact Proms.cons prom (Proms.cons prom (Proms.cons prom Proms.nil))
  have r1 : RowF Sl.val Sl.nil (hset A2 (t.cell own.length) (ss.getD (own.length + i) Sl.nil).val) t (ss.set own.length (ss.getD (own.length + i) Sl.nil)) := by
    obtain ⟨o1, _⟩ := OwnR.set hS2.mat.arr (j := own.length) (by simp; omega) (ss.getD (own.length + i) Sl.nil).val
    rw [← List.map_set] at o1
    exact OwnR.rowF o1
  have hl1 : (ss.set own.length (ss.getD (own.length + i) Sl.nil)).length = R := by simp [hsl]
  obtain ⟨hS3, c3⟩ := hS2.swap (i := own.length) (j := own.length + i) (by omega) (by omega)
  have w3 : Wr (hset A2 (t.cell own.length) (ss.getD (own.length + i) Sl.nil).val) (t.cell (own.length + i)) := by
    obtain ⟨o1, _⟩ := OwnR.set hS2.mat.arr (j := own.length) (by simp; omega) (ss.getD (own.length + i) Sl.nil).val
    exact o1.wr (by simp; omega)
  refine go ?_
  refine RegP.store w3 ?_ ?_
  · exact Proms.nil
  have x3 := x2.chg c3 (fun hx => by omega)
  have z3 := c3.size
  generalize hset (hset A2 (t.cell own.length) (ss.getD (own.length + i) Sl.nil).val) (t.cell (own.length + i)) (ss.getD own.length Sl.nil).val = A3 at hS3 c3 x3 z3
  generalize (ss.set own.length (ss.getD (own.length + i) Sl.nil)).set (own.length + i) (ss.getD own.length Sl.nil) = s3 at hS3
  have c13 := c2.trans (c3.mono fun x _ hx => hx.1)
  clear r1 w3 hl1 hcut asks hrow hb hown
  have hsl3 : s3.length = R := by have := hS3.mat.len; rwa [mk2_length] at this
  have hb := hS3.blk
  have hrow := hS3.row
  have rowB : ∀ {A : Heap} {ss : List Sl} {O : Sl} {g : M} (i : Nat), i < R → Sys A b fb top t ss (mk2 R W g) O own → Bytes A (ss.getD i Sl.nil) (mk W (g i)) := fun i hi hA => by
    have := hA.mat.bytes (k := i) (by rw [mk2_length]; exact hi)
    rwa [mk2_row hi] at this
  have hB := rowB own.length (by omega) hS3
  have hml := mk_length W (swp g own.length (own.length + i) own.length)
  refine go ?_
  refine RegP.call (inv_ok fb _ A3 hS3.field) ?_
  rintro _ _ ⟨rfl, rfl⟩
  refine ⟨.inl (Ext.refl _), ?_⟩
  refine go ?_
  rw [mk_getD, if_pos (show k < W by omega)]
  refine RegS.call (times_ok' b fb top t s3 R W _ O own own.length _ A3 hS3 (by omega) hR hW) ?_
  rintro _ A4 ⟨hS4, c4⟩
  have x4 := x3.chg c4 (fun hx => by omega)
  have z4 := c4.size
  have hb4 := hS4.blk
  have hrow4 := hS4.row
  have hpiv : piv g own.length (own.length + i) k = elm (scl (swp g own.length (own.length + i)) own.length (ginv (swp g own.length (own.length + i) own.length k))) own.length k := rfl
  generalize scl (swp g own.length (own.length + i)) own.length (ginv (swp g own.length (own.length + i) own.length k)) = q at hS4 hpiv
  have c14 := c13.trans (c4.mono fun x _ hx => hx.1)
  refine go ?_
  refine Wp.loop (ι := Nat) (fun j => [(0, sysV b), (4, .pointer (some ⟨A.size, 0, none⟩)), (5, I64 own.length), (11, I64 c), (12, I64 k), (85, t.val), (86, I64 R), (87, I64 j)]) (fun j B => j ≤ R ∧ Sys B b fb top t s3 (mk2 R W (elmN q own.length k j)) O own ∧ Chg (fun x => b ≤ x) H B ∧ Box B A.size 3 (I64 k) ∧ A.size < B.size) (fun j => R - j) 0 ⟨rfl, rfl, rfl, rfl, rfl, rfl, ?_, rfl, trivial⟩ ⟨Nat.zero_le _, ?_, c14, x4, by omega⟩ ?_
  · exact get_int rfl (by rw [hsl3])
  · rw [mk2_congr (f := elmN q own.length k 0) (g := q) fun i j _ _ => by simp [elmN]]; exact hS4
  · rintro j B ⟨hj, hSB, cB, xB, zB⟩
    have hbB := hSB.blk
    have hrowB := hSB.row
    refine go ?_
    refine Wp.br (fun h' => ?_) (fun h' => ?_)
    · have h' : (j : Int) < (R : Int) := h'
      have hBj := rowB j (by omega) hSB
      have hmlj := mk_length W (elmN q own.length k j j)
      refine go ?_
      refine Wp.br (fun h2 => ?_) (fun h2 => ?_) <;> refine go ?_
      · refine roundQ_n (j + 1) ⟨rfl, rfl, rfl, rfl, rfl, rfl, rfl, rfl, trivial⟩ ⟨by omega, ?_, cB, xB, zB⟩ (by omega)
        rw [mk2_congr (f := elmN q own.length k (j + 1)) (g := elmN q own.length k j) fun a y _ _ => by
          simp only [elmN]
          by_cases e : a = own.length
          · simp [e]
          · by_cases e3 : a < j
            · simp [e, e3, Nat.lt_succ_of_lt e3]
            · simp [e, e3, show ¬ a < j + 1 by omega]]
        exact hSB
      · have hne : j ≠ own.length := by omega
        rw [mk_getD, if_pos (show k < W by omega)]
        refine RegS.call (addS_ok b fb top t s3 R W _ O own j own.length _ B hSB (by omega) (by omega) hne hR hW) ?_
        rintro _ B1 ⟨hS5, c5⟩
        have z5 := c5.size
        refine go ?_
        refine roundQ_n (j + 1) ⟨rfl, rfl, rfl, rfl, rfl, rfl, rfl, rfl, trivial⟩ ⟨by omega, ?_, cB.trans (c5.mono fun x _ hx => hx.1), xB.chg c5 (fun hx => by omega), by omega⟩ (by omega)
        rw [mk2_congr (f := elmN q own.length k (j + 1)) (g := addF (elmN q own.length k j) j own.length (elmN q own.length k j j k)) fun a y _ _ => by
          simp only [elmN, addF]
          by_cases e : a = j
          · subst e; simp [hne, gmul_comm (q a k)]
          · by_cases e3 : a < j
            · simp [e, e3, Nat.lt_succ_of_lt e3]
            · simp [e, e3, show ¬ a < j + 1 by omega]]
        exact hS5
    · have h' : ¬ (j : Int) < (R : Int) := h'
      have : j = R := by omega
      subst this
      rw [mk2_congr (f := elmN q own.length k j) (g := elm q own.length k) fun a y ha _ => by
        simp only [elmN, elm]
        by_cases e : a = own.length
        · simp [e]
        · simp [e, ha]] at hSB
      rw [← hpiv] at hSB
      have hbB := hSB.blk
      have hownB := hSB.owns
      refine go ?_
      refine RegP.buildSlice fun B1 o1 y1 w1 => ?_
      have r1 : RowF I64 0 B1 (Sl.fresh B.size 1) [k] := OwnR.rowF (e := 3) (l := [k]) o1
      have hSB1 := hSB.ext y1
      refine go ?_
      have hbz := hSB1.blk.lt
      refine RegP.append (f := I64) (hSB1.own) r1 (fun _ => rfl) (by omega) ?_ ?_ ?_
      · simp; omega
      · simp; omega
      intro O' B2 o2 c2' b2
      obtain ⟨hS6, c6⟩ := hSB1.putOwn o2 c2' b2
      have hb2 : Blk B2 b 301 [fieldV fb, t.val, O.val] := hSB1.blk.chg c2' fun hx => by have := (hSB1.own.blk_ge hx).1; omega
      refine ⟨.inr ?_, ?_⟩
      · exact Proms.cons prom Proms.nil
      refine go ?_
      refine RegP.store (hb2.wr (j := 2) (by simp)) ?_ ?_
      · exact Proms.nil
      refine go ?_
      refine roundQ_n (k + 1, s3, O') ⟨rfl, rfl, rfl, trivial⟩ ⟨by simp only; omega, ?_, (cB.trans (y1.chg _)).trans c6⟩ (by simp only; omega)
      rw [hnext, hst]
      exact hS6
end Go.Proofs.YtgmemfcfjlndoaaGreat
