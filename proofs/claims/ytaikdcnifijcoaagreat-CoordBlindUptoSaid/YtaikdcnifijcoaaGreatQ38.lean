/-
  The walks of package solve's Solve and Rank.
-/
import Derived.Test.YtaikdcnifijcoaaGreatQ37
set_option linter.unusedVariables false
set_option linter.unusedSimpArgs false
namespace Go.Proofs.YtaikdcnifijcoaaGreat
open Go Go.Vc Go.Gf
/-- The first rows, with a byte more behind each. -/
def rowsB (rows : List (List UInt8)) (rhs : List UInt8) (k : Nat) : List (List UInt8) := (List.range k).map fun i => rows.getD i [] ++ [rhs.getD i 0]
theorem rowsB_succ (rows : List (List UInt8)) (rhs : List UInt8) (k : Nat) : rowsB rows rhs (k + 1) = rowsB rows rhs k ++ [rows.getD k [] ++ [rhs.getD k 0]] := by simp [rowsB, List.range_succ]
theorem rowsB_all {rows : List (List UInt8)} (h : rect rows) (rhs : List UInt8) : rowsB rows rhs rows.length = mk2 rows.length ((rows.getD 0 []).length + 1) (aug rows (rows.getD 0 []).length rhs) := by
  refine list2_ext (by simp [rowsB, mk2_length]) fun k hk => ?_
  have hk' : k < rows.length := by simpa [rowsB] using hk
  rw [mk2_row hk']
  have e : (rowsB rows rhs rows.length).getD k [] = rows.getD k [] ++ [rhs.getD k 0] := by simp [rowsB, List.getD_eq_getElem?_getD, List.getElem?_range, hk']
  rw [e]
  have hl := h k hk'
  have hl2 : (rows.getD k [] ++ [rhs.getD k 0]).length = (rows.getD 0 []).length + 1 := by rw [List.length_append, List.length_singleton, hl]
  refine ext0 (by rw [hl2, mk_length]) fun j hj => ?_
  have hj' : j < (rows.getD 0 []).length + 1 := by rw [← hl2]; exact hj
  rw [mk_getD, if_pos hj', getD_append, hl]
  unfold aug
  by_cases hlt : j < (rows.getD 0 []).length
  · rw [if_pos hlt, if_pos hlt]; rfl
  · rw [if_neg hlt, if_neg hlt, show j - (rows.getD 0 []).length = 0 by omega]; rfl
theorem Sys.chgTop {H H' : Heap} {b fb top : Nat} {t : Sl} {ss : List Sl} {m : List (List UInt8)} {S : Nat → Prop} (h : Sys H b fb top t ss m Sl.nil []) (c : Chg S H H') (hs : ∀ x, S x → top ≤ x) (hb : b < top) : Sys H' b fb top t ss m Sl.nil [] :=
  ⟨h.blk.chg c fun hx => by have := hs b hx; omega, h.mat.chg' c (fun x hx hx' => by have := hs x hx'; have := h.tt x hx; omega) (fun k x hk hx hx' => by have := hs x hx'; have := h.ts x k hk hx; omega), OwnR.nil _ _ _ _, h.field.chg c fun hx => by have := hs fb hx; have := h.low; omega, h.low, h.ot, h.os, h.tt, h.ts⟩
theorem sys_new {H : Heap} {b fb : Nat} (hb : Blk H b 301 [fieldV fb, Sl.nil.val, Sl.nil.val]) (hF : IsField H fb) (hlt : fb < b) (top : Nat) : Sys H b fb top Sl.nil [] [] Sl.nil [] :=
  ⟨hb, Mat.nil _ _ _, OwnR.nil _ _ _ _, hF, hlt, fun x hx => by simp [Sl.blk, Sl.nil] at hx, fun x k hx => by simp [Sl.blk, Sl.nil] at hx, fun x hx => by simp [Sl.blk, Sl.nil] at hx, fun x k hk => absurd hk (by simp)⟩
theorem IsField.lt {H : Heap} {fb : Nat} (h : IsField H fb) : fb < H.size := hcell_lt (h.log 0)
theorem solve1_ok (b k : Nat) (s : Sl) (l : List UInt8) (H : Heap) (hb : Box H b 3 (I64 k)) (hs : Bytes H s l) (hk : k < l.length) : CallsH Tryz.prog 280 [s.val, .pointer (some ⟨b, 0, none⟩)] H fun v H' => v = .bool (dec (l.getD k 0 ≠ 0)) ∧ H = H' := by
  refine CallsH.enter h280 Tryz.func280 rfl rfl rfl (by decide) fun u => go ?_
  exact ret1 ⟨rfl, rfl⟩
/-- What Solve hands back. -/
def SolR (H : Heap) (rows : List (List UInt8)) (rhs : List UInt8) (v : Value) (H' : Heap) : Prop :=
  Ext H H' ∧ ((¬ (rect rows ∧ rhs.length = rows.length) ∧ v = .tuple #[Sl.nil.val, .bool false]) ∨
    (rect rows ∧ rhs.length = rows.length ∧ rows.length = 0 ∧ v = .tuple #[Sl.nil.val, .bool true]) ∨
    (rect rows ∧ rhs.length = rows.length ∧ rows.length ≠ 0 ∧ ¬ slvOk rows (rows.getD 0 []).length rhs ∧ v = .tuple #[Sl.nil.val, .bool false]) ∨
    (rect rows ∧ rhs.length = rows.length ∧ rows.length ≠ 0 ∧ slvOk rows (rows.getD 0 []).length rhs ∧ ∃ x : Sl, v = .tuple #[x.val, .bool true] ∧ Mine H' H.size x (slvX rows (rows.getD 0 []).length rhs)))
set_option maxHeartbeats 1000000 in
theorem solve_ok (fb : Nat) (s r : Sl) (ss : List Sl) (rows : List (List UInt8)) (rhs : List UInt8) (H : Heap) (hF : IsField H fb) (hs : BRows H s ss rows) (hr : Bytes H r rhs) (hR : rows.length ≤ 100000) (hW : (rows.getD 0 []).length ≤ 100000) :
    CallsH Tryz.prog 266 [fieldV fb, s.val, r.val] H (SolR H rows rhs) := by
  have hrow := hs.row
  have hlen := hs.len
  refine CallsH.enter h266 Tryz.func266 rfl rfl rfl (by decide) fun u => go ?_
  refine RegS.call (right_ok s ss rows H hs (by omega)) ?_
  rintro _ H1 ⟨rfl, e1⟩
  have hs1 := hs.ext e1
  have hr1 := hr.ext e1
  have hrow1 := hs1.row
  by_cases hrc : rect rows
  case neg =>
    rw [dec_neg hrc]
    refine go ?_
    exact ret2 ⟨e1, .inl ⟨fun h => hrc h.1, rfl⟩⟩
  rw [dec_pos hrc]
  refine go ?_
  refine Wp.br (fun hl => ?_) (fun hl => ?_) <;> refine go ?_
  · exact ret2 ⟨e1, .inl ⟨fun h => by omega, rfl⟩⟩
  refine Wp.br (fun h0 => ?_) (fun h0 => ?_)
  · refine go ?_
    exact ret2 ⟨e1, .inr (.inl ⟨hrc, by omega, by omega, rfl⟩)⟩
  have hB0 := hs1.each 0 (by omega)
  have hrl : rhs.length = rows.length := by omega
  have hne : rows.length ≠ 0 := by omega
  have hw : ∀ k, k < rows.length → (rows.getD k []).length = (rows.getD 0 []).length := hrc
  generalize hn : (rows.getD 0 []).length = n at *
  refine go ?_
  refine RegS.alloc (fun H2 e2 z2 b2 => ?_)
  refine go ?_
  rw [hn]
  refine RegS.store (v := I64 n) (Box.wr ⟨b2⟩) ?_
  have nb3 : Box (hset H2 ⟨H1.size, 0, none⟩ (I64 n)) H1.size 3 (I64 n) := Box.set ⟨b2⟩
  have e3 : Ext H1 (hset H2 ⟨H1.size, 0, none⟩ (I64 n)) := e2.then (hset_chg _ _ _) fun y hy => by simp at hy; omega
  generalize hset H2 ⟨H1.size, 0, none⟩ (I64 n) = H3 at nb3 e3
  have x3 := e1.trans e3
  have nlt := nb3.lt
  refine go ?_
  refine RegS.boxA fun H4 e4 z4 b4 => ?_
  have x4 := x3.trans e4
  have hF4 := hF.ext x4
  have hlt : fb < H3.size := (hF.ext x3).lt
  have hrow4 := hrow.ext x4
  refine go ?_
  refine Wp.loop (ι := Nat × Sl × List Sl) (fun i => [(0, fieldV fb), (1, s.val), (2, r.val), (8, .pointer (some ⟨H1.size, 0, none⟩)), (9, sysV H3.size), (35, s.val), (36, I64 ss.length), (37, I64 i.1)]) (fun i A => i.1 ≤ rows.length ∧ Sys A H3.size fb A.size i.2.1 i.2.2 (rowsB rows rhs i.1) Sl.nil [] ∧ Ext H A ∧ Box A H1.size 3 (I64 n) ∧ H3.size < A.size) (fun i => rows.length - i.1) (0, Sl.nil, []) ⟨rfl, rfl, rfl, rfl, rfl, rfl, rfl, rfl, trivial⟩ ⟨Nat.zero_le _, sys_new b4 hF4 hlt _, x4, nb3.ext e4, by omega⟩ ?_
  rintro ⟨k, t, tt⟩ A ⟨hk, hS, eA, nb, zA⟩
  have hk : k ≤ rows.length := hk
  have hS : Sys A H3.size fb A.size t tt (rowsB rows rhs k) Sl.nil [] := hS
  have hsA := hs.ext eA
  have hrA := hsA.row
  have hrhs := hr.ext eA
  have hb := hS.blk
  refine go ?_
  refine Wp.br (fun h => ?_) (fun h => ?_)
  · have h : (k : Int) < (ss.length : Int) := h
    have hBk := hsA.each k (by omega)
    have hwk := hw k (by omega)
    refine go ?_
    refine RegP.e (RegE.call (clone_ok (ss.getD k Sl.nil) (rows.getD k []) A hBk (by omega)) ?_ (RegE.buildSlice (fun A3 o3 y3 w3 => ?_) RegE.nil))
    · rintro _ A3 ⟨sc, rfl, oc, y3⟩
      refine ⟨.inl y3, ?_⟩
      refine go ?_
      refine RegP.buildSlice fun A4 o4 y4 w4 => ?_
      have m4 : Mine A4 A3.size (Sl.fresh A3.size 1) [rhs.getD k 0] := OwnR.mine (e := 5) o4
      have hz4 := (y3.trans y4).size
      refine go ?_
      refine RegP.append (f := B8) (oc.ext y4) m4.bytes (fun _ => rfl) (by omega) ?_ ?_ ?_
      · simp only [List.length_singleton]; omega
      · simp only [List.length_singleton]; omega
      intro sr A5 or c5 b5
      have cA5 : Chg (fun x => sc.blk = some x) A A5 := ((y3.trans y4).chg _).trans c5
      have hfresh : ∀ x, sc.blk = some x → A.size ≤ x := fun x hx => (oc.blk_ge hx).1
      have hb5 := (Sys.chgTop hS cA5 hfresh zA).blk
      refine ⟨.inr (Proms.cons prom (Proms.cons prom (Proms.cons prom (Proms.cons prom (Proms.cons prom Proms.nil))))), ?_⟩

      have mc : Mine A5 (H3.size + 1) sr (rows.getD k [] ++ [rhs.getD k 0]) := OwnR.mine (e := 5) (or.low (by omega))
      have hS5 := Sys.chgTop hS (cA5) hfresh zA
      have hlow5 : ∀ x, sr.blk = some x → A.size ≤ x := fun x hx => by have := (or.blk_ge hx).1; omega
      refine go ?_
      refine RegP.buildSlice fun A6 o6 y6 w6 => ?_
      have r6 : RowF Sl.val Sl.nil A6 (Sl.fresh A5.size 1) [sr] := OwnR.rowF (f := Sl.val) (l := [sr]) o6
      have hS6 := hS5.ext y6
      have hz6 := y6.size
      have hz5 := cA5.size
      refine go ?_
      refine RegP.append (f := Sl.val) hS6.mat.arr r6 (fun _ => rfl) (by omega) ?_ ?_ ?_
      · have := hS6.mat.len; simp [rowsB] at this ⊢; omega
      · have := hS6.mat.len; simp [rowsB] at this ⊢; omega
      intro t' A7 o7 c7 b7
      obtain ⟨hS8, c8⟩ := Sys.addRow hS6 (mc.ext y6) (fun j x hj hx hx' => by have := hS.ts x j hj hx; have := hlow5 x hx'; omega) (fun x hx hx' => by have := hS.tt x hx'; have := hlow5 x hx; omega) o7 c7 b7
      have hb7 : Blk A7 H3.size 301 [fieldV fb, t.val, Sl.nil.val] := hS6.blk.chg c7 fun hx => by have := (hS6.mat.arr.blk_ge hx).1; omega
      refine ⟨.inr ?_, ?_⟩
      · exact Proms.cons prom Proms.nil
      refine go ?_
      refine RegP.store (hb7.wr (j := 1) (by simp)) ?_ ?_
      · exact Proms.nil
      refine go ?_
      have hz7 := c7.size
      have x5 : Ext H A5 := eA.then cA5 fun x hx => by have := hfresh x hx; have := eA.size; omega
      refine roundQ_n (k + 1, t', tt ++ [sr]) ⟨rfl, rfl, rfl, rfl, rfl, rfl, rfl, rfl, trivial⟩ ⟨by simp only; omega, ?_, (x5.trans y6).then c8 fun x hx => by have := x3.size; omega, ((nb.chg cA5 fun hx => by have := hfresh _ hx; omega).ext y6).chg c8 (fun hx => by omega), by rw [hset_size]; omega⟩ (by simp only; omega)
      show Sys _ _ _ _ _ _ (rowsB rows rhs (k + 1)) _ _
      rw [rowsB_succ, hset_size]
      exact hS8
    · have m3 : Mine A3 A.size (Sl.fresh A.size 1) [rhs.getD k 0] := OwnR.mine (e := 5) o3
      refine RegP.call (clone_ok (ss.getD k Sl.nil) (rows.getD k []) A3 (hBk.ext y3) (by omega)) ?_
      rintro _ A4 ⟨sc, rfl, oc, y4⟩
      refine ⟨.inl y4, ?_⟩
      refine go ?_
      have hz4 := (y3.trans y4).size
      refine RegP.append (f := B8) oc (m3.ext y4).bytes (fun _ => rfl) (by have := y4.size; omega) ?_ ?_ ?_
      · simp only [List.length_singleton]; omega
      · simp only [List.length_singleton]; omega
      intro sr A5 or c5 b5
      have cA5 : Chg (fun x => sc.blk = some x) A A5 := ((y3.trans y4).chg _).trans c5
      have hfresh : ∀ x, sc.blk = some x → A.size ≤ x := fun x hx => by have := (oc.blk_ge hx).1; omega
      have hb5 := (Sys.chgTop hS cA5 hfresh zA).blk
      refine ⟨.inr (Proms.cons prom (Proms.cons prom (Proms.cons prom (Proms.cons prom (Proms.cons prom Proms.nil))))), ?_⟩
      have mc : Mine A5 (H3.size + 1) sr (rows.getD k [] ++ [rhs.getD k 0]) := OwnR.mine (e := 5) (or.low (by omega))
      have hS5 := Sys.chgTop hS (cA5) hfresh zA
      have hlow5 : ∀ x, sr.blk = some x → A.size ≤ x := fun x hx => by have := (or.blk_ge hx).1; omega
      refine go ?_
      refine RegP.buildSlice fun A6 o6 y6 w6 => ?_
      have r6 : RowF Sl.val Sl.nil A6 (Sl.fresh A5.size 1) [sr] := OwnR.rowF (f := Sl.val) (l := [sr]) o6
      have hS6 := hS5.ext y6
      have hz6 := y6.size
      have hz5 := cA5.size
      refine go ?_
      refine RegP.append (f := Sl.val) hS6.mat.arr r6 (fun _ => rfl) (by omega) ?_ ?_ ?_
      · have := hS6.mat.len; simp [rowsB] at this ⊢; omega
      · have := hS6.mat.len; simp [rowsB] at this ⊢; omega
      intro t' A7 o7 c7 b7
      obtain ⟨hS8, c8⟩ := Sys.addRow hS6 (mc.ext y6) (fun j x hj hx hx' => by have := hS.ts x j hj hx; have := hlow5 x hx'; omega) (fun x hx hx' => by have := hS.tt x hx'; have := hlow5 x hx; omega) o7 c7 b7
      have hb7 : Blk A7 H3.size 301 [fieldV fb, t.val, Sl.nil.val] := hS6.blk.chg c7 fun hx => by have := (hS6.mat.arr.blk_ge hx).1; omega
      refine ⟨.inr ?_, ?_⟩
      · exact Proms.cons prom Proms.nil
      refine go ?_
      refine RegP.store (hb7.wr (j := 1) (by simp)) ?_ ?_
      · exact Proms.nil
      refine go ?_
      have hz7 := c7.size
      have x5 : Ext H A5 := eA.then cA5 fun x hx => by have := hfresh x hx; have := eA.size; omega
      refine roundQ_n (k + 1, t', tt ++ [sr]) ⟨rfl, rfl, rfl, rfl, rfl, rfl, rfl, rfl, trivial⟩ ⟨by simp only; omega, ?_, (x5.trans y6).then c8 fun x hx => by have := x3.size; omega, ((nb.chg cA5 fun hx => by have := hfresh _ hx; omega).ext y6).chg c8 (fun hx => by omega), by rw [hset_size]; omega⟩ (by simp only; omega)
      show Sys _ _ _ _ _ _ (rowsB rows rhs (k + 1)) _ _
      rw [rowsB_succ, hset_size]
      exact hS8
  · have h : ¬ (k : Int) < (ss.length : Int) := h
    have : k = rows.length := by omega
    subst this
    rw [rowsB_all hrc, hn] at hS
    have nlA := nb.lt
    refine go ?_
    refine RegS.call (reduce_ok H3.size fb A.size t tt rows.length (n + 1) (aug rows n rhs) n A hS (Nat.le_refl _) (by omega) (by omega) (by omega)) ?_
    rintro _ A1 ⟨rfl, s', O', hS1, c1⟩
    have nb1 := nb.chg c1 (fun hx => by omega)
    have x1 : Ext H A1 := eA.then c1 fun x hx => by have := x3.size; omega
    have P := redF_plain rows.length (aug rows n rhs) n
    have hslv : redF rows.length (aug rows n rhs) n = slv rows n rhs := rfl
    rw [hslv] at hS1 P
    have hsok : slvOk rows n rhs ↔ solOk rows.length n (slv rows n rhs).1 (slv rows n rhs).2 := Iff.rfl
    have hsx : slvX rows n rhs = mk n (xo (slv rows n rhs).1 n (slv rows n rhs).2 (slv rows n rhs).2.length) := rfl
    generalize slv rows n rhs = gs at hS1 P hsok hsx
    obtain ⟨g, own⟩ := gs
    simp only at hS1 P hsok hsx
    have hsl : s'.length = rows.length := by have := hS1.mat.len; rwa [mk2_length] at this
    have hat := P.le
    have hb := hS1.blk
    have hrw := hS1.row
    have hown := hS1.owns
    have htl := hrw.len
    have rowB : ∀ (i : Nat), i < rows.length → Bytes A1 (s'.getD i Sl.nil) (mk (n + 1) (g i)) := fun i hi => by
      have := hS1.mat.bytes (k := i) (by rw [mk2_length]; exact hi)
      rwa [mk2_row hi] at this
    refine go ?_
    refine RegP.cut own.length t.len t.cap (.inr ⟨_, _, rfl, rfl⟩) (.inl ⟨rfl, rfl, rfl⟩) (.inl ⟨rfl, rfl⟩) ⟨by omega, t.le, Nat.le_refl _⟩ ?_
    have hcut := hrw.cut (l := own.length) (h := t.len) (m := t.cap) ⟨by omega, t.le, Nat.le_refl _⟩ (by omega)
    have hcl : ((s'.take t.len).drop own.length).length = rows.length - own.length := by simp; omega
    have asks : Asks 280 [.pointer (some ⟨H1.size, 0, none⟩)] ((s'.take t.len).drop own.length) (fun i => g (own.length + i) n ≠ 0) A1 := by
      intro i hi
      rw [hcl] at hi
      rw [getD_cut (by omega)]
      refine (solve1_ok H1.size n _ _ A1 nb1 (rowB (own.length + i) (by omega)) (by rw [mk_length]; omega)).mono ?_
      rintro v H' ⟨rfl, rfl⟩
      rw [mk_getD, if_pos (show n < n + 1 by omega)]
      exact ⟨rfl, rfl⟩
    refine go ?_
    refine RegP.call (containsFunc_ok 280 [.pointer (some ⟨H1.size, 0, none⟩)] _ _ _ A1 hcut asks (by omega)) ?_
    rintro _ _ ⟨rfl, rfl⟩
    refine ⟨.inl (Ext.refl _), ?_⟩
    rw [hcl]
    refine go ?_
    have hex : (∃ k, k < rows.length - own.length ∧ g (own.length + k) n ≠ 0) ↔ ¬ slvOk rows n rhs := by
      rw [hsok]
      constructor
      · rintro ⟨k, hk, hne⟩ hso
        exact hne (hso _ (by omega) (by omega))
      · intro hso
        refine Classical.byContradiction fun hno => hso fun i h1 h2 => Classical.byContradiction fun hne => hno ⟨i - own.length, by omega, ?_⟩
        rw [show own.length + (i - own.length) = i by omega]
        exact hne
    refine Wp.br (fun hbad => ?_) (fun hbad => ?_) <;> refine go ?_
    · exact ret2 ⟨x1, .inr (.inr (.inl ⟨hrc, hrl, hne, by rw [hn]; exact hex.1 hbad, rfl⟩))⟩
    have hgood : slvOk rows n rhs := Classical.not_not.1 fun k => hbad (hex.2 k)
    refine RegS.makeSlice (n := n) ?_ ?_ fun A2 o2 e2' z2' => ?_
    · omega
    · omega
    have m2 : Mine A2 A1.size (Sl.fresh A1.size n) (mk n (xo g n own 0)) := by
      have e0 : (List.replicate n (Value.int .u8 0)) = (mk n (xo g n own 0)).map B8 := by
        have : mk n (xo g n own 0) = List.replicate n 0 := by
          refine ext0 (by simp [mk_length]) fun j hj => ?_
          rw [mk_length] at hj
          rw [mk_getD, if_pos hj]
          simp [xo, List.getD_eq_getElem?_getD, List.getElem?_replicate, hj]
        rw [this]; simp [B8]
      rw [e0] at o2
      exact OwnR.mine o2
    have hS2 := hS1.ext e2'
    have hb := hS2.blk
    have hown := hS2.owns
    have hol := hown.len
    refine go ?_
    refine Wp.loop (ι := Nat) (fun j => [(8, .pointer (some ⟨H1.size, 0, none⟩)), (9, sysV H3.size), (12, (Sl.fresh A1.size n).val), (80, O'.val), (81, I64 own.length), (82, I64 j)]) (fun j B => j ≤ own.length ∧ Ext A1 B ∧ Mine B A1.size (Sl.fresh A1.size n) (mk n (xo g n own j))) (fun j => own.length - j) 0 ⟨rfl, rfl, rfl, rfl, rfl, rfl, trivial⟩ ⟨Nat.zero_le _, e2', m2⟩ ?_
    rintro j B ⟨hj, eB, mB⟩
    have hSB := hS1.ext eB
    have hb := hSB.blk
    have hown := hSB.owns
    have hrw := hSB.row
    have nbB := nb1.ext eB
    have bB := mB.bytes
    have hml := mk_length n (xo g n own j)
    refine go ?_
    refine Wp.br (fun h' => ?_) (fun h' => ?_)
    · have h' : (j : Int) < (own.length : Int) := h'
      have hlt := P.lt j (by omega)
      have hrB := (rowB j (by omega)).ext eB
      have hml2 := mk_length (n + 1) (g j)
      refine go ?_
      refine RegP.store (mB.wr (j := own.getD j 0) (by omega)) ?_ ?_
      · exact Proms.nil
      obtain ⟨m3, c3⟩ := mB.set (j := own.getD j 0) (by omega) ((mk (n + 1) (g j)).getD n 0)
      refine go ?_
      refine roundQ_n (j + 1) ⟨rfl, rfl, rfl, rfl, rfl, rfl, trivial⟩ ⟨by omega, eB.then c3 fun x hx => (mB.blk x hx).1, ?_⟩ (by omega)
      have : (mk n (xo g n own j)).set (own.getD j 0) ((mk (n + 1) (g j)).getD n 0) = mk n (xo g n own (j + 1)) := by
        refine ext0 (by simp [mk_length]) fun y hy => ?_
        rw [List.length_set, mk_length] at hy
        rw [Gf.getD_set, mk_length, mk_getD, if_pos (show n < n + 1 by omega), mk_getD, mk_getD, if_pos hy, if_pos hy, xo]
        by_cases e : y = own.getD j 0
        · rw [if_pos ⟨e, hlt⟩, if_pos e]
        · rw [if_neg fun k => e k.1, if_neg e]
      rw [← this]
      exact m3
    · have h' : ¬ (j : Int) < (own.length : Int) := h'
      refine go ?_
      have : j = own.length := by omega
      subst this
      rw [← hsx] at mB
      refine ret2 ⟨x1.trans eB, .inr (.inr (.inr ⟨hrc, hrl, hne, by rw [hn]; exact hgood, Sl.fresh A1.size n, rfl, ?_⟩))⟩
      rw [hn]
      exact mB.low x1.size
end Go.Proofs.YtaikdcnifijcoaaGreat
