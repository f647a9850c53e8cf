/-
  The walk of the document's Reduce.
-/
import Derived.Test.YthoabhcaliggoaaVRef
import Derived.Test.YthoabhcaliggoaaVMat
import Derived.Test.YthoabhcaliggoaaVSolveL
set_option linter.unusedVariables false
set_option linter.unusedSimpArgs false
namespace Go.Proofs.Ythoabhcaliggoaa
open Go Go.Vc Go.Gf

structure Red (A : Heap) (base top : Nat) (t : Sl) (ss : List Sl) (m : List (List UInt8)) (O : Sl) (own : List Nat) : Prop where
  mat : Mat A base 23 t ss m
  own : OwnF I64 A top 3 O own
  tt : ∀ x, t.blk = some x → x < top
  ts : ∀ x k, k < m.length → (ss.getD k Sl.nil).blk = some x → x < top
  le : base ≤ top ∧ top ≤ A.size
section
variable {H H' : Heap} {base top : Nat} {t : Sl} {ss : List Sl} {m : List (List UInt8)} {O : Sl} {own : List Nat}
theorem Red.ext (h : Red H base top t ss m O own) (e : Ext H H') : Red H' base top t ss m O own := ⟨h.mat.ext e, h.own.ext e, h.tt, h.ts, h.le.1, Nat.le_trans h.le.2 e.size⟩
theorem Red.row (h : Red H base top t ss m O own) : RowF Sl.val Sl.nil H t ss := h.mat.row
theorem Red.owns (h : Red H base top t ss m O own) : RowF I64 0 H O own := h.own.rowF
theorem Red.len {R W : Nat} {f : M} (h : Red H base top t ss (mk2 R W f) O own) : ss.length = R := by have := h.mat.len; rwa [mk2_length] at this
theorem Red.bytes {R W : Nat} {f : M} (h : Red H base top t ss (mk2 R W f) O own) {i : Nat} (hi : i < R) : Bytes H (ss.getD i Sl.nil) (Gf.mk W (f i)) := by
  have := h.mat.bytes (k := i) (by rw [mk2_length]; exact hi)
  rwa [mk2_row hi] at this
theorem Red.wr {R W : Nat} {f : M} (h : Red H base top t ss (mk2 R W f) O own) {i j : Nat} (hi : i < R) (hj : j < W) : Wr H ((ss.getD i Sl.nil).cell j) :=
  h.mat.wr (by rw [mk2_length]; exact hi) (by rw [mk2_row hi, mk_length]; exact hj)
theorem Red.put {R W : Nat} {f g : M} (h : Red H base top t ss (mk2 R W f) O own) {i j : Nat} {v : UInt8} (hi : i < R) (hj : j < W) (hg : ∀ a c, a < R → c < W → g a c = if a = i ∧ c = j then v else f a c) :
    Red (hset H ((ss.getD i Sl.nil).cell j) (B8 v)) base top t ss (mk2 R W g) O own ∧ Chg (fun x => base ≤ x) H (hset H ((ss.getD i Sl.nil).cell j) (B8 v)) := by
  have hi' : i < (mk2 R W f).length := by rw [mk2_length]; exact hi
  have hj' : j < ((mk2 R W f).getD i []).length := by rw [mk2_row hi, mk_length]; exact hj
  obtain ⟨h1, h2⟩ := h.mat.put hi' hj' v
  rw [mk2_put hi hj hg] at h1
  obtain ⟨_, h3⟩ := (h.mat.each i hi').set hj' v
  refine ⟨⟨h1, h.own.chg h3 fun x hx hx' => by have := h.ts x i hi' hx'; have := (h.own.blk_ge hx).1; omega, h.tt, fun x k hk => h.ts x k (by rw [mk2_length] at hk ⊢; exact hk), h.le.1, by rw [hset_size]; exact h.le.2⟩, h2⟩
theorem Red.swap {R W : Nat} {f : M} (h : Red H base top t ss (mk2 R W f) O own) {i j : Nat} (hi : i < R) (hj : j < R) :
    Red (hset (hset H (t.cell i) (ss.getD j Sl.nil).val) (t.cell j) (ss.getD i Sl.nil).val) base top t ((ss.set i (ss.getD j Sl.nil)).set j (ss.getD i Sl.nil)) (mk2 R W (swp f i j)) O own ∧
    Chg (fun x => base ≤ x) H (hset (hset H (t.cell i) (ss.getD j Sl.nil).val) (t.cell j) (ss.getD i Sl.nil).val) := by
  have hi' : i < (mk2 R W f).length := by rw [mk2_length]; exact hi
  have hj' : j < (mk2 R W f).length := by rw [mk2_length]; exact hj
  obtain ⟨h1, h2⟩ := h.mat.swap hi' hj'
  rw [mk2_swap hi hj] at h1
  have hl := h.len
  obtain ⟨o1, c1⟩ := OwnR.set h.mat.arr (j := i) (by simp; omega) (ss.getD j Sl.nil).val
  obtain ⟨_, c2⟩ := OwnR.set o1 (j := j) (by simp; omega) (ss.getD i Sl.nil).val
  have c := c1.trans c2
  refine ⟨⟨h1, h.own.chg c fun x hx hx' => by have := h.tt x hx'; have := (h.own.blk_ge hx).1; omega, h.tt, fun x k hk hx' => ?_, h.le.1, by rw [hset_size, hset_size]; exact h.le.2⟩, h2⟩
  rw [mk2_length] at hk
  rw [getD_setL (by simp; omega)] at hx'
  split at hx'
  · exact h.ts x i hi' hx'
  · rw [getD_setL (by omega)] at hx'
    split at hx'
    · exact h.ts x j hj' hx'
    · exact h.ts x k (by rw [mk2_length]; exact hk) hx'
theorem Red.putOwn {H1 : Heap} {O' : Sl} {own' : List Nat} (h : Red H base top t ss m O own) (o : OwnF I64 H1 top 3 O' own') (c : Chg (fun x => O.blk = some x) H H1) : Red H1 base top t ss m O' own' :=
  ⟨h.mat.chg' c (fun x hx hx' => by have := h.tt x hx; have := (h.own.blk_ge hx').1; omega) (fun k x hk hx hx' => by have := h.ts x k hk hx; have := (h.own.blk_ge hx').1; omega), o, h.tt, h.ts, h.le.1, Nat.le_trans h.le.2 c.size⟩
end

def scN (f : M) (n : Nat) (v : UInt8) (k : Nat) : M := fun i j => if i = n ∧ j < k then gmul (f n j) v else f i j
def elI (q : M) (k c i j : Nat) : M := fun a y => if a ≠ k ∧ (a < i ∨ a = i ∧ y < j) then q a y ^^^ gmul (q a c) (q k y) else q a y
/-- The first rows. -/
def rowsN (rows : List (List UInt8)) (k : Nat) : List (List UInt8) := (List.range k).map fun i => rows.getD i []
theorem rowsN_succ (rows : List (List UInt8)) (k : Nat) : rowsN rows (k + 1) = rowsN rows k ++ [rows.getD k []] := by simp [rowsN, List.range_succ]
theorem rowsN_all (rows : List (List UInt8)) : rowsN rows rows.length = rows := by
  refine list2_ext (by simp [rowsN]) fun k hk => ?_
  have hk' : k < rows.length := by simpa [rowsN] using hk
  simp [rowsN, List.getD_eq_getElem?_getD, List.getElem?_range, hk']

set_option maxHeartbeats 1000000 in
theorem rreduce_ok (s : Sl) (ss : List Sl) (rows : List (List UInt8)) (H : Heap) (hs : BRows H s ss rows) (hrc : rect rows) (hR : rows.length ≤ 100000) (hW : (rows.getD 0 []).length ≤ 100000) :
    CallsH Try.prog 28 [s.val] H fun v H' => ∃ t O : Sl, v = .tuple #[t.val, O.val] ∧ RowF I64 0 H' O (redF rows.length (gM rows) (rows.getD 0 []).length).2 ∧ Ext H H' := by
  have hrow := hs.row
  have hlen := hs.len
  refine CallsH.enter h28 Try.func28 rfl rfl rfl (by decide) fun u => go ?_
  refine Wp.loop (ι := Nat × Sl × List Sl) (fun i => [(0, s.val), (4, i.2.1.val), (5, I64 i.1)]) (fun i A => i.1 ≤ rows.length ∧ Mat A H.size 23 i.2.1 i.2.2 (rowsN rows i.1) ∧ Ext H A) (fun i => rows.length - i.1) (0, Sl.nil, []) ⟨rfl, rfl, rfl, trivial⟩ ⟨Nat.zero_le _, Mat.nil _ _ _, Ext.refl _⟩ ?_
  rintro ⟨k, t, tt⟩ A ⟨hk, hM, eA⟩
  have hk : k ≤ rows.length := hk
  have hM : Mat A H.size 23 t tt (rowsN rows k) := hM
  have hsA := hs.ext eA
  have hrA := hsA.row
  have zA := eA.size
  refine go ?_
  refine Wp.br (fun h => ?_) (fun h => ?_)
  · have h : (k : Int) < (ss.length : Int) := h
    have hBk := hsA.each k (by omega)
    have hwk := hrc k (by omega)
    refine go ?_
    refine RegS.buildSlice fun A1 o1 y1 w1 => ?_
    have hr1 := hrA.ext y1
    refine go ?_
    refine RegS.append (f := B8) (l' := []) o1 (hBk.ext y1) (fun _ => rfl) (by omega) ?_ ?_ ?_
    · simp only [List.length_nil]; omega
    · simp only [List.length_nil]; omega
    intro sr A2 o2 c2 b2
    have x2 : Ext A A2 := y1.then c2 fun x hx => (o1.blk_ge hx).1
    refine go ?_
    refine RegS.buildSlice fun A3 o3 y3 w3 => ?_
    have r3 : RowF Sl.val Sl.nil A3 (Sl.fresh A2.size 1) [sr] := OwnR.rowF (f := Sl.val) (l := [sr]) o3
    have hM3 := hM.ext (x2.trans y3)
    have hz3 := (x2.trans y3).size
    refine go ?_
    refine RegS.append (f := Sl.val) hM3.arr r3 (fun _ => rfl) (by omega) ?_ ?_ ?_
    · have := hM3.len; simp [rowsN] at this ⊢; omega
    · have := hM3.len; simp [rowsN] at this ⊢; omega
    intro t' A4 o4 c4 b4
    have mr : Mine A3 H.size sr (rows.getD k []) := OwnR.mine (e := 5) ((o2.ext y3).low (by omega))
    have hM4 := Mat.app (S := fun _ => False) hM3 mr (fun j x hj hx hx' => by have := ((hM.each j hj).blk x hx).2; have := (o2.blk_ge hx').1; omega) (fun x hx hx' => by have := (hM.arr.blk_ge hx').2; have := (o2.blk_ge hx).1; omega) o4 c4 b4
    refine go ?_
    refine roundQ_n (k + 1, t', tt ++ [sr]) ⟨rfl, rfl, rfl, trivial⟩ ⟨by simp only; omega, ?_, (eA.trans (x2.trans y3)).then c4 fun x hx => (hM3.arr.blk_ge hx).1⟩ (by simp only; omega)
    show Mat _ _ _ _ _ (rowsN rows (k + 1))
    rw [rowsN_succ]
    exact hM4
  have h : ¬ (k : Int) < (ss.length : Int) := h
  have : k = rows.length := by omega
  subst this
  rw [rowsN_all] at hM
  generalize hRn : rows.length = R at *
  generalize hWn : (rows.getD 0 []).length = W at *
  have hM' : Mat A H.size 23 t tt (mk2 R W (gM rows)) := by
    have := rect_mk2 hrc
    rw [hRn, hWn] at this
    rwa [← this]
  have hS0 : Red A H.size A.size t tt (mk2 R W (gM rows)) Sl.nil [] := ⟨hM', OwnR.nil _ _ _ _, fun x hx => (hM'.arr.blk_ge hx).2, fun x k hk hx => ((hM'.each k hk).blk x hx).2, zA, Nat.le_refl _⟩
  generalize A.size = top at hS0
  refine go ?_
  refine Wp.loop (ι := Nat × List Sl × Sl) (fun i => [(4, t.val), (6, i.2.2.val), (7, I64 i.1)]) (fun i B => i.1 ≤ W ∧ Red B H.size top t i.2.1 (mk2 R W (redF R (gM rows) i.1).1) i.2.2 (redF R (gM rows) i.1).2 ∧ Ext H B) (fun i => W - i.1) (0, tt, Sl.nil) ⟨rfl, rfl, rfl, trivial⟩ ⟨Nat.zero_le _, hS0, eA⟩ ?_
  clear hM hM' hS0 hrA hsA h
  rintro ⟨c, s1, O⟩ B ⟨hc, hS, eB⟩
  have hc : c ≤ W := hc
  have hS : Red B H.size top t s1 (mk2 R W (redF R (gM rows) c).1) O (redF R (gM rows) c).2 := hS
  have P := redF_plain R (gM rows) c
  have hnext : redF R (gM rows) (c + 1) = stepF R c (redF R (gM rows) c) := rfl
  have hfin : c = W → (redF R (gM rows) c).2 = (redF R (gM rows) W).2 := fun e => by rw [e]
  generalize hred : redF R (gM rows) c = gs at hS P hnext hfin
  obtain ⟨g, own⟩ := gs
  simp only at hS P hfin
  have hsl := hS.len
  have hrw := hS.row
  have hown := hS.owns
  have hat := P.le
  refine go ?_
  refine RegS.sp (fun h0 => ?_) (fun h0 => ?_)
  case refine_2 =>
    refine go ?_
    have hR0 : R = 0 := by omega
    have hW0 : W = 0 := by
      have : rows = [] := List.eq_nil_of_length_eq_zero (by omega)
      subst this
      exact hWn.symm
    have hcw : c = W := by omega
    refine ret2 ⟨t, O, rfl, ?_, eB⟩
    rw [← hfin hcw]
    exact hown
  have hB0 := hS.bytes (i := 0) (by omega)
  have hml0 := mk_length W (g 0)
  refine go ?_
  refine Wp.br (fun hlt => ?_) (fun hlt => ?_)
  case refine_2 =>
    refine go ?_
    have hcw : c = W := by omega
    refine ret2 ⟨t, O, rfl, ?_, eB⟩
    rw [← hfin hcw]
    exact hown
  have hltc : c < W := by omega
  refine go ?_
  refine Wp.loop (ι := Nat) (fun r => [(4, t.val), (6, O.val), (7, I64 c), (8, I64 r)]) (fun r B' => own.length ≤ r ∧ r ≤ R ∧ (∀ i, own.length ≤ i → i < r → g i c = 0) ∧ B = B') (fun r => R - r) own.length ⟨rfl, rfl, rfl, rfl, trivial⟩ ⟨Nat.le_refl _, hat, fun i h1 h2 => by omega, rfl⟩ ?_
  rintro r _ ⟨hr1, hr2, hr0, rfl⟩
  obtain ⟨f1, f2, f3, f4⟩ := find_spec (f := g) (c := c) P.le
  refine go ?_
  refine RegS.sp (fun hrR => ?_) (fun hrR => ?_)
  case refine_2 =>
    have : r = R := by omega
    subst this
    have hfind : ¬ find g c r own.length < r := fun hf => f4 hf (hr0 _ f1 hf)
    have hst : stepF r c (g, own) = (g, own) := by unfold stepF; rw [if_neg hfind]
    refine go ?_
    refine roundQ_n (c + 1, s1, O) ⟨rfl, rfl, rfl, trivial⟩ ⟨by simp only; omega, ?_, eB⟩ (by simp only; omega)
    rw [hnext, hst]
    exact hS
  have hBr := hS.bytes (i := r) (by omega)
  have hmlr := mk_length W (g r)
  refine go ?_
  rw [mk_getD, if_pos hltc]
  refine Wp.br (fun hz => ?_) (fun hz => ?_)
  · refine go ?_
    refine roundQ_n (r + 1) ⟨rfl, rfl, rfl, rfl, trivial⟩ ⟨by omega, by omega, fun i h1 h2 => ?_, rfl⟩ (by omega)
    by_cases e : i = r
    · subst e; exact hz
    · exact hr0 i h1 (by omega)
  have hfind : find g c R own.length = r := by
    rcases Nat.lt_trichotomy (find g c R own.length) r with h1 | h1 | h1
    · exact absurd (hr0 _ f1 h1) (f4 (by omega))
    · exact h1
    · exact absurd (f3 r hr1 h1) hz
  have hst : stepF R c (g, own) = (piv g own.length r c, own ++ [c]) := by
    unfold stepF; rw [if_pos (by rw [hfind]; omega)]; simp only [hfind]
  refine go ?_
  refine RegP.store (hS.mat.arr.wr (j := own.length) (by simp; omega)) ?_ ?_
  · exact Proms.cons prom (Proms.cons prom Proms.nil)
  obtain ⟨o1, _⟩ := OwnR.set hS.mat.arr (j := own.length) (by simp; omega) (s1.getD r Sl.nil).val
  have w3 : Wr (hset B (t.cell own.length) (s1.getD r Sl.nil).val) (t.cell r) := o1.wr (by simp; omega)
  rw [← List.map_set] at o1
  have r1 : RowF Sl.val Sl.nil (hset B (t.cell own.length) (s1.getD r Sl.nil).val) t (s1.set own.length (s1.getD r Sl.nil)) := OwnR.rowF o1
  have hl1 : (s1.set own.length (s1.getD r Sl.nil)).length = R := by simp [hsl]
  obtain ⟨hS3, c3⟩ := hS.swap (i := own.length) (j := r) (by omega) (by omega)
  refine go ?_
  refine RegP.store w3 ?_ ?_
  · exact Proms.nil
  have e3 := eB.then c3 fun x hx => hx
  generalize hset (hset B (t.cell own.length) (s1.getD r Sl.nil).val) (t.cell r) (s1.getD own.length Sl.nil).val = B3 at hS3 e3
  generalize (s1.set own.length (s1.getD r Sl.nil)).set r (s1.getD own.length Sl.nil) = s3 at hS3
  have hrlt : r < R := by omega
  clear r1 w3 hl1 hrw hown o1 c3 hsl hB0 hBr
  have hsl := hS3.len
  have hrw := hS3.row
  have hown := hS3.owns
  have hB := hS3.bytes (i := own.length) (by omega)
  have hml := mk_length W (swp g own.length r own.length)
  refine go ?_
  rw [mk_getD, if_pos hltc]
  refine RegS.call (rinv_ok _ B3) ?_
  rintro _ _ ⟨rfl, rfl⟩
  have hpiv : piv g own.length r c = elm (scl (swp g own.length r) own.length (ginv (swp g own.length r own.length c))) own.length c := rfl
  generalize ginv (swp g own.length r own.length c) = inv at hpiv
  generalize swp g own.length r = q0 at hS3 hpiv hB hml
  refine go ?_
  refine Wp.loop (ι := Nat) (fun j => [(4, t.val), (6, O.val), (7, I64 c), (9, I64 own.length), (10, B8 inv), (11, I64 j)]) (fun j B' => j ≤ W ∧ Red B' H.size top t s3 (mk2 R W (scN q0 own.length inv j)) O own ∧ Ext H B') (fun j => W - j) 0 ⟨rfl, rfl, rfl, rfl, rfl, rfl, trivial⟩ ⟨Nat.zero_le _, ?_, e3⟩ ?_
  · rw [mk2_congr (f := scN q0 own.length inv 0) (g := q0) fun i j _ _ => by simp [scN]]; exact hS3
  clear hS3 hrw hown hB e3
  rintro j B4 ⟨hj, hS4, e4⟩
  have hrw := hS4.row
  have hB := hS4.bytes (i := own.length) (by omega)
  have hml := mk_length W (scN q0 own.length inv j own.length)
  refine go ?_
  refine Wp.br (fun hjlt => ?_) (fun hjlt => ?_)
  · refine go ?_
    refine RegP.call (rmul_ok _ _ B4) ?_
    rintro _ _ ⟨rfl, rfl⟩
    refine ⟨.inl (Ext.refl _), ?_⟩
    refine go ?_
    refine RegP.store (hS4.wr (i := own.length) (j := j) (by omega) (by omega)) ?_ ?_
    · exact Proms.nil
    obtain ⟨h1, h2⟩ := hS4.put (g := scN q0 own.length inv (j + 1)) (i := own.length) (j := j) (v := gmul ((mk W (scN q0 own.length inv j own.length)).getD j 0) inv) (by omega) (by omega) fun a y _ _ => by
      rw [mk_getD, if_pos (show j < W by omega)]
      simp only [scN]
      by_cases e : a = own.length
      · subst e
        by_cases e2 : y = j
        · subst e2; simp
        · by_cases e3 : y < j
          · simp [e2, e3, Nat.lt_succ_of_lt e3]
          · simp [e2, e3, show ¬ y < j + 1 by omega]
      · simp [e]
    refine go ?_
    exact roundQ_n (j + 1) ⟨rfl, rfl, rfl, rfl, rfl, rfl, trivial⟩ ⟨by omega, h1, e4.then h2 fun x hx => hx⟩ (by omega)
  have : j = W := by omega
  subst this
  rw [mk2_congr (f := scN q0 own.length inv j) (g := scl q0 own.length inv) fun i y _ hy => by simp [scN, scl, hy]] at hS4
  generalize scl q0 own.length inv = q at hS4 hpiv
  clear hrw hB hml
  refine go ?_
  refine Wp.loop (ι := Nat) (fun i => [(4, t.val), (6, O.val), (7, I64 c), (9, I64 own.length), (12, I64 i)]) (fun i B' => i ≤ R ∧ Red B' H.size top t s3 (mk2 R j (elI q own.length c i 0)) O own ∧ Ext H B') (fun i => R - i) 0 ⟨rfl, rfl, rfl, rfl, rfl, trivial⟩ ⟨Nat.zero_le _, ?_, e4⟩ ?_
  · rw [mk2_congr (f := elI q own.length c 0 0) (g := q) fun i j _ _ => by simp [elI]]; exact hS4
  clear hS4 e4
  rintro i B5 ⟨hi, hS5, e5⟩
  have hrw := hS5.row
  refine go ?_
  refine Wp.br (fun hilt => ?_) (fun hilt => ?_)
  · have hBi := hS5.bytes (i := i) (by omega)
    have hmli := mk_length j (elI q own.length c i 0 i)
    refine go ?_
    rw [mk_getD, if_pos hltc]
    have eby : elI q own.length c i 0 i c = q i c := by simp [elI]
    rw [eby]
    refine Wp.loop (ι := Nat) (fun y => [(4, t.val), (6, O.val), (7, I64 c), (9, I64 own.length), (12, I64 i), (13, B8 (q i c)), (14, I64 y)]) (fun y B' => y ≤ j ∧ Red B' H.size top t s3 (mk2 R j (elI q own.length c i y)) O own ∧ Ext H B') (fun y => j - y) 0 ⟨rfl, rfl, rfl, rfl, rfl, rfl, rfl, trivial⟩ ⟨Nat.zero_le _, hS5, e5⟩ ?_
    clear hS5 e5 hrw hBi hmli
    rintro y B6 ⟨hy, hS6, e6⟩
    have hrw := hS6.row
    have hBi := hS6.bytes (i := i) (by omega)
    have hmli := mk_length j (elI q own.length c i y i)
    refine go ?_
    refine RegS.sp (fun hyl => ?_) (fun hyl => ?_)
    case refine_2 =>
      have hyj : y = j := by omega
      refine go ?_
      refine roundQ_n (i + 1) ⟨rfl, rfl, rfl, rfl, rfl, trivial⟩ ⟨by omega, ?_, e6⟩ (by omega)
      rw [mk2_congr (f := elI q own.length c (i + 1) 0) (g := elI q own.length c i y) fun a z _ hz => by
        simp only [elI]
        by_cases e : a = own.length
        · simp [e]
        · by_cases e2 : a < i
          · simp [e, e2, Nat.lt_succ_of_lt e2]
          · by_cases e3 : a = i
            · simp [e, e3, show z < y by omega]
            · simp [e, e2, e3, show ¬ a < i + 1 by omega]]
      exact hS6
    refine go ?_
    refine Wp.br (fun hik => ?_) (fun hik => ?_)
    · have hne : i ≠ own.length := by omega
      have hBk := hS6.bytes (i := own.length) (by omega)
      have hmlk := mk_length j (elI q own.length c i y own.length)
      refine go ?_
      refine RegP.call (rmul_ok _ _ B6) ?_
      rintro _ _ ⟨rfl, rfl⟩
      refine ⟨.inl (Ext.refl _), ?_⟩
      refine go ?_
      refine RegP.store (hS6.wr (i := i) (j := y) (by omega) (by omega)) ?_ ?_
      · exact Proms.nil
      obtain ⟨h1, h2⟩ := hS6.put (g := elI q own.length c i (y + 1)) (i := i) (j := y) (v := (mk j (elI q own.length c i y i)).getD y 0 ^^^ gmul (q i c) ((mk j (elI q own.length c i y own.length)).getD y 0)) (by omega) (by omega) fun a z _ _ => by
        rw [mk_getD, if_pos (show y < j by omega), mk_getD, if_pos (show y < j by omega)]
        simp only [elI]
        by_cases e : a = own.length
        · subst e; simp [Ne.symm hne]
        · by_cases e2 : a < i
          · simp [e, e2, show a ≠ i by omega]
          · by_cases e3 : a = i
            · subst e3
              by_cases e4 : z = y
              · subst e4; simp [hne]
              · by_cases e5 : z < y
                · simp [e, e4, e5, Nat.lt_succ_of_lt e5]
                · simp [e, e4, e5, show ¬ z < y + 1 by omega]
            · simp [e, e2, e3]
      refine go ?_
      exact roundQ_n (y + 1) ⟨rfl, rfl, rfl, rfl, rfl, rfl, rfl, trivial⟩ ⟨by omega, h1, e6.then h2 fun x hx => hx⟩ (by omega)
    · have hie : i = own.length := by omega
      refine go ?_
      refine roundQ_n (i + 1) ⟨rfl, rfl, rfl, rfl, rfl, trivial⟩ ⟨by omega, ?_, e6⟩ (by omega)
      rw [mk2_congr (f := elI q own.length c (i + 1) 0) (g := elI q own.length c i y) fun a z _ hz => by
        simp only [elI]
        by_cases e : a = own.length
        · simp [e]
        · by_cases e2 : a < i
          · simp [e, e2, Nat.lt_succ_of_lt e2]
          · simp [e, e2, show ¬ a = i by omega, show ¬ a < i + 1 by omega]]
      exact hS6
  have hiR : i = R := by omega
  subst hiR
  rw [mk2_congr (f := elI q own.length c i 0) (g := elm q own.length c) fun a y ha _ => by
    simp only [elI, elm]
    by_cases e : a = own.length
    · simp [e]
    · simp [e, ha]] at hS5
  rw [← hpiv] at hS5
  have hown := hS5.owns
  refine go ?_
  refine RegS.buildSlice fun B6 o6 y6 w6 => ?_
  have r6 : RowF I64 0 B6 (Sl.fresh B5.size 1) [c] := OwnR.rowF (e := 3) (l := [c]) o6
  have hS6 := hS5.ext y6
  refine go ?_
  refine RegS.append (f := I64) hS6.own r6 (fun _ => rfl) hS6.le.2 ?_ ?_ ?_
  · simp; omega
  · simp; omega
  intro O' B7 o7 c7 b7
  refine go ?_
  refine roundQ_n (c + 1, s3, O') ⟨rfl, rfl, rfl, trivial⟩ ⟨by simp only; omega, ?_, (e5.trans y6).then c7 fun x hx => by have := (hS6.own.blk_ge hx).1; have := hS6.le.1; omega⟩ (by simp only; omega)
  rw [hnext, hst]
  exact hS6.putOwn o7 c7
end Go.Proofs.Ythoabhcaliggoaa
