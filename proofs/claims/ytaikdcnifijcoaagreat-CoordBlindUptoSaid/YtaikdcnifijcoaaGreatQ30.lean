/-
  The walks of slices.Delete and slices.Insert at heads of objects.
-/
import Derived.Test.YtaikdcnifijcoaaGreatQ28
import Derived.Test.YtaikdcnifijcoaaGreatQ29
set_option linter.unusedVariables false
set_option linter.unusedSimpArgs false
namespace Go.Proofs.YtaikdcnifijcoaaGreat
open Go Go.Vc Go.Gf
variable {H : Heap}
theorem hd_cells {H : Heap} {g : Nat} {e : TypeId} {A B D : List Value} (hb : Blk H g e (A ++ B ++ D)) (j : Nat) (v : Value) (h : B[j]? = some v) (off : Nat) (ho : off = A.length) : hcell H ((⟨g, off, none⟩ : Addr).add j) = some v := by
  subst ho
  rw [Addr.add_lit, blk_cell hb.at_]
  have hlt := (List.getElem?_eq_some_iff.1 h).1
  rw [List.append_assoc, List.getElem?_toArray, List.getElem?_append_right (by omega), List.getElem?_append_left (by omega)]
  rw [show A.length + j - A.length = j by omega]
  exact h
theorem cut_parts (l : List HdT) (i : Nat) (hi : i < l.length) : l.flatMap hdV = (l.take i).flatMap hdV ++ hdV (l.getD i ([], 0)) ++ (l.drop (i + 1)).flatMap hdV := by
  have e : l = l.take i ++ l.getD i ([], 0) :: l.drop (i + 1) := by
    rw [List.getD_eq_getElem?_getD, List.getElem?_eq_getElem hi, Option.getD_some, List.getElem_cons_drop]; exact (List.take_append_drop i l).symm
  conv => lhs; rw [e]
  rw [List.flatMap_append, List.flatMap_cons, List.append_assoc]
theorem zero_hd : (Builtin.zeroCells (Value.agg #[S [], IV 0]).cells 1).toList = [S [], IV 0] := by kernel_rfl
theorem zeros_len (k : Nat) : (Builtin.zeroCells (Value.agg #[S [], IV 0]).cells k).toList.length = k * 2 := by
  rw [Array.length_toList, size_zeroCells]; rfl
theorem hdV_take (l : List HdT) (i : Nat) (hi : i ≤ l.length) : ((l.take i).flatMap hdV).length = i * 2 := by rw [hdV_flat, List.length_take, Nat.min_eq_left hi]
theorem hdV_drop (l : List HdT) (i : Nat) : ((l.drop i).flatMap hdV).length = (l.length - i) * 2 := by rw [hdV_flat, List.length_drop]
set_option maxHeartbeats 4000000 in
theorem sdelete_ok {base : Nat} (s : Sl) (l : List HdT) (i : Nat) (hi : i < l.length) (hll : l.length ≤ 1000) (o : OwnR H base 79 2 s (l.flatMap hdV)) :
    CallsH Tryz.prog 131 [s.val, I64 i, I64 (i + 1)] H fun r H' => ∃ s' : Sl, r = s'.val ∧ OwnR H' base 79 2 s' ((l.take i ++ l.drop (i + 1)).flatMap hdV) ∧ Chg (fun b => s.blk = some b) H H' ∧ s'.blk = s.blk := by
  have hsl : s.len = l.length := by have := o.1; rw [hdV_flat] at this; omega
  obtain ⟨g, rest, ha, hg, hb, hlc, hcm, hcl, _⟩ := o.opn (by omega)
  have hval : s.val = .slice (some ⟨g, 0, none⟩) l.length s.cap := by rw [Sl.val, ha, hsl]
  have hblk : s.blk = some g := by rw [Sl.blk, ha]; rfl
  rw [hval, hblk]
  rw [hsl] at hlc
  generalize s.cap = c at *
  rw [cut_parts l i hi] at hb hcl
  have lA := hdV_take l i (Nat.le_of_lt hi)
  have lC := hdV_drop l (i + 1)
  obtain ⟨A, hA⟩ : ∃ A, A = (l.take i).flatMap hdV := ⟨_, rfl⟩
  obtain ⟨X, hX⟩ : ∃ X, X = hdV (l.getD i ([], 0)) := ⟨_, rfl⟩
  obtain ⟨D, hD⟩ : ∃ D, D = (l.drop (i + 1)).flatMap hdV := ⟨_, rfl⟩
  have lX : X.length = 2 := by rw [hX]; rfl
  have oD : ∀ v ∈ D, oneCell v = true := by rw [hD]; exact hdV_one _
  rw [List.flatMap_append, ← hA, ← hD]
  rw [← hA] at lA hb hcl
  rw [← hD] at lC hb hcl
  rw [← hX] at hb hcl
  simp only [List.length_append] at hcl
  refine CallsH.enter h131 Tryz.func131 rfl rfl rfl (by decide) fun u => run ?_
  refine RegS.q ?_ (h := Rd.lenG rfl rfl rfl)
  refine run ?_
  refine RegS.q ?_ (h := Rd.cutG (l := i) (h := i + 1) (m := l.length) rfl rfl hlc (.inr ⟨_, _, rfl, rfl⟩) (.inr ⟨_, _, rfl, rfl⟩) (.inr ⟨_, _, rfl, rfl⟩) rfl rfl ⟨by omega, by omega, by omega⟩)
  refine run ?_
  refine RegS.q ?_ (h := Rd.lenG rfl rfl rfl)
  refine run ?_
  refine RegP.q' ?_ (h := Rd.cutG (l := 0) (h := i) (m := c) rfl rfl hlc (.inl ⟨rfl, rfl⟩) (.inr ⟨_, _, rfl, rfl⟩) (.inl ⟨rfl, rfl⟩) rfl rfl ⟨by omega, by omega, by omega⟩)
  refine run ?_
  refine RegP.q' ?_ (h := Rd.cutG (l := i + 1) (h := l.length) (m := c) rfl rfl hlc (.inr ⟨_, _, rfl, rfl⟩) (.inl ⟨rfl, rfl, rfl⟩) (.inl ⟨rfl, rfl⟩) rfl rfl ⟨by omega, by omega, by omega⟩)
  rw [gOff_zero]
  have hl1 : (A ++ X ++ D ++ rest).length = c * 2 := by simp only [List.length_append]; omega
  have hD0 : ∀ j v, D[j]? = some v → c ≠ i + 1 := fun j v hj e => by
    have := (List.getElem?_eq_some_iff.1 hj).1
    omega
  refine run ?_
  refine RegP.appendG (size := 2) (g := g) (off := 0) (sLen := i) (sCap := c) (n := l.length - (i + 1)) (nc := c - (i + 1)) (a := ⟨g, gOff c (i + 1) 0 2, none⟩) D (by omega) hb (by rw [hl1]; omega) lC (fun j v hj => hd_cells hb j v hj _ (by rw [gOff_ne (hD0 j v hj), List.length_append, lA, lX]; omega)) oD Proms.nil ?_
  have b1 : Blk (hsets H g (0 + i * 2) D) g 79 (puts (A ++ X ++ D ++ rest) (0 + i * 2) D) := Blk.sets D _ hb
  have c1 : Chg (· = g) H (hsets H g (0 + i * 2) D) := hsets_chg g D (0 + i * 2) H
  rw [show puts (A ++ X ++ D ++ rest) (0 + i * 2) D = A ++ D ++ (X ++ D ++ rest).drop D.length by
    rw [show A ++ X ++ D ++ rest = A ++ (X ++ D ++ rest) by simp, Nat.zero_add, ← lA]
    exact puts_at D A _ (by simp only [List.length_append]; omega)] at b1
  generalize hsets H g (0 + i * 2) D = H1 at b1 c1 ⊢
  rw [show i + (l.length - (i + 1)) = l.length - 1 by omega]
  refine run ?_
  refine RegS.q ?_ (h := Rd.lenG rfl rfl rfl)
  refine run ?_
  refine RegS.q ?_ (h := Rd.cutG (l := l.length - 1) (h := l.length) (m := c) rfl rfl (by omega) (.inr ⟨_, _, rfl, rfl⟩) (.inr ⟨_, _, rfl, rfl⟩) (.inl ⟨rfl, rfl⟩) rfl rfl ⟨by omega, by omega, by omega⟩)
  rw [gOff_ne (by omega), show l.length - (l.length - 1) = 1 by omega, Nat.zero_add]
  obtain ⟨R, hR⟩ : ∃ R, R = (X ++ D ++ rest).drop D.length := ⟨_, rfl⟩
  rw [← hR] at b1
  have lR : R.length = 2 + rest.length := by rw [hR, List.length_drop]; simp only [List.length_append]; omega
  have lAD : (A ++ D).length = (l.length - 1) * 2 := by rw [List.length_append]; omega
  refine run ?_
  refine RegS.clearG (g := g) (off := (l.length - 1) * 2) (n := 1) (c := c - (l.length - 1)) (z' := .agg #[S [], IV 0]) (by omega) b1 (by
    rw [zero_hd, List.length_append, lAD]
    show _ + 2 ≤ _
    omega) (by
    intro v hv
    rw [zero_hd] at hv
    simp only [List.mem_cons, List.not_mem_nil, or_false] at hv
    rcases hv with rfl | rfl <;> rfl) ?_
  obtain ⟨Z, hZ⟩ : ∃ Z : List Value, Z = (Builtin.zeroCells (Value.agg #[S [], IV 0]).cells 1).toList := ⟨_, rfl⟩
  have lZ : Z.length = 2 := by rw [hZ, zero_hd]; rfl
  have b2 : Blk (hsets H1 g ((l.length - 1) * 2) Z) g 79 (puts (A ++ D ++ R) ((l.length - 1) * 2) Z) := Blk.sets Z _ b1
  have c2 : Chg (· = g) H1 (hsets H1 g ((l.length - 1) * 2) Z) := hsets_chg g Z ((l.length - 1) * 2) H1
  rw [show puts (A ++ D ++ R) ((l.length - 1) * 2) Z = A ++ D ++ Z ++ R.drop Z.length by
    rw [← lAD]
    exact puts_at Z (A ++ D) _ (by omega), List.append_assoc (A ++ D)] at b2
  rw [hZ] at b2 c2
  refine run ?_
  have hle : l.length - 1 ≤ c := by omega
  refine ret1 ⟨Sl.own g (l.length - 1) c hle, rfl, OwnR.shut b2 hg hle hcm lAD ?_, (c1.trans c2).mono fun b _ e => (by rw [e]), rfl⟩
  rw [List.length_append, lAD, ← hZ, List.length_append, List.length_drop, lZ, lR]
  omega
theorem ins_parts (l : List HdT) (i : Nat) (x : HdT) : (l.take i ++ x :: l.drop i).flatMap hdV = (l.take i).flatMap hdV ++ hdV x ++ (l.drop i).flatMap hdV := by
  rw [List.flatMap_append, List.flatMap_cons, List.append_assoc]
theorem two_parts (l : List HdT) (i : Nat) : l.flatMap hdV = (l.take i).flatMap hdV ++ (l.drop i).flatMap hdV := by
  rw [← List.flatMap_append, List.take_append_drop]
theorem overlaps_no {H : Heap} {vb g off lb cb : Nat} {xs ys : List Value} {w : World} (hw : w.heap = H) (hv : Blk H vb 79 xs) (hg : Blk H g 79 ys) (hne : vb ≠ g) (hys : ys ≠ []) :
    (callFunc 246 [(.slice (some ⟨vb, 0, none⟩) 1 1 : Value), .slice (some ⟨g, off, none⟩) lb cb].toArray).run Tryz.prog w = .ok (.value (.bool false)) w := by
  subst hw
  have f := Tryz.func246
  rw [run_callFunc_extern f (by kernel_rfl) (by kernel_rfl) (by kernel_rfl) (e := Extern.SlicesOverlaps.overlaps #[33, 33] #[4]) (by kernel_rfl)]
  have := Lib.run_overlaps_apart (P := Tryz.prog) w 33 4 79 (by kernel_rfl) 2 (fun w => by kernel_rfl) ⟨vb, 0, none⟩ ⟨g, off, none⟩ 1 1 lb cb hne 79 79 xs.length ys.length
    (by unfold World.shape?; rw [hv.at_]; simp) (by unfold World.shape?; rw [hg.at_]; simp) (by simp [hys]) (blk_free hv.at_) (blk_free hv.at_)
  rw [this]
  rfl
theorem nmin_l {a b : Nat} (h : a ≤ b) : Nat.min a b = a := Nat.min_eq_left h
theorem nmin_r {a b : Nat} (h : b ≤ a) : Nat.min a b = b := Nat.min_eq_right h
set_option maxHeartbeats 4000000 in
theorem sinsert_ok {base vb : Nat} (s : Sl) (l : List HdT) (i : Nat) (x : HdT) (hi : i ≤ l.length) (hll : l.length ≤ 1000) (o : OwnR H base 79 2 s (l.flatMap hdV)) (hbase : base ≤ H.size) (hv : Blk H vb 79 (hdV x)) (hvb : ∀ b, s.blk = some b → b ≠ vb) :
    CallsH Tryz.prog 216 [s.val, I64 i, (Sl.fresh vb 1).val] H fun r H' => ∃ s' : Sl, r = s'.val ∧ OwnR H' base 79 2 s' ((l.take i ++ x :: l.drop i).flatMap hdV) ∧ Chg (fun b => s.blk = some b) H H' ∧ (s'.blk = s.blk ∨ ∃ b, s'.blk = some b ∧ H.size ≤ b) := by
  have hsl : s.len = l.length := by have := o.1; rw [hdV_flat] at this; omega
  rw [ins_parts]
  have oX : ∀ v ∈ hdV x, oneCell v = true := fun v hv => by
    simp only [hdV, List.mem_cons, List.not_mem_nil, or_false] at hv
    rcases hv with rfl | rfl <;> rfl
  have vX : ∀ j v, (hdV x)[j]? = some v → hcell H ((⟨vb, 0, none⟩ : Addr).add j) = some v := fun j v hj => by
    rw [Addr.add_lit, blk_cell hv.at_]; simpa using hj
  by_cases hil : i = l.length
  · subst hil
    have hrow := o.hrow
    have hcc := s.le
    refine CallsH.enter h216 Tryz.func216 rfl rfl rfl (by decide) fun u => run ?_
    refine RegS.q ?_ (h := Rd.sliceN (s := s) (l := l.length) (h := s.len) (m := s.cap) rfl rfl (.inr ⟨_, _, rfl, rfl⟩) (.inl ⟨rfl, rfl, rfl⟩) (.inl ⟨rfl, rfl⟩) rfl rfl ⟨by omega, by omega, by omega⟩)
    refine run ?_
    refine RegS.q ?_ (h := Rd.lenG rfl rfl rfl)
    refine run ?_
    refine Wp.br (fun h => ?_) (fun _ => ?_)
    · have h : ((1 : Nat) : Int) = ((0 : Nat) : Int) := h
      omega
    refine run ?_
    refine RegS.appendN (size := 2) (r := Sl.fresh vb 1) (ys := hdV x) o rfl (fun j u hj => by rw [Sl.cell_eq]; exact vX j u hj) oX hbase (by rw [hsl]; show (_ + 1) * 24 ≤ _; omega) (by rw [hsl]; show _ + 1 ≤ _; omega) fun s' H' o' c' b' => ?_
    refine run ?_
    refine ret1 ⟨s', rfl, ?_, c', b'⟩
    rw [List.take_length, List.drop_length]
    simpa using o'
  have hi' : i < l.length := by omega
  obtain ⟨g, rest, ha, hg, hb, hlc, hcm, hcl, _⟩ := o.opn (by omega)
  have hval : s.val = .slice (some ⟨g, 0, none⟩) l.length s.cap := by rw [Sl.val, ha, hsl]
  have hblk : s.blk = some g := by rw [Sl.blk, ha]; rfl
  have hne : vb ≠ g := fun e => hvb g hblk e.symm
  rw [hval, hblk, show (Sl.fresh vb 1).val = Value.slice (some ⟨vb, 0, none⟩) 1 1 from rfl]
  rw [hsl] at hlc
  generalize s.cap = c at *
  rw [two_parts l i] at hb hcl
  have lA := hdV_take l i hi
  have lC := hdV_drop l i
  obtain ⟨A, hA⟩ : ∃ A, A = (l.take i).flatMap hdV := ⟨_, rfl⟩
  obtain ⟨X, hX⟩ : ∃ X, X = hdV x := ⟨_, rfl⟩
  obtain ⟨D, hD⟩ : ∃ D, D = (l.drop i).flatMap hdV := ⟨_, rfl⟩
  have lX : X.length = 2 := by rw [hX]; rfl
  have oD : ∀ v ∈ D, oneCell v = true := by rw [hD]; exact hdV_one _
  rw [← hA, ← hD, ← hX]
  rw [← hX] at oX vX hv
  rw [← hA] at lA hb hcl
  rw [← hD] at lC hb hcl
  simp only [List.length_append] at hcl
  have hl1 : (A ++ D ++ rest).length = c * 2 := by simp only [List.length_append]; omega
  refine CallsH.enter h216 Tryz.func216 rfl rfl rfl (by decide) fun u => run ?_
  refine RegS.q ?_ (h := Rd.cutG (l := i) (h := l.length) (m := c) rfl rfl hlc (.inr ⟨_, _, rfl, rfl⟩) (.inl ⟨rfl, rfl, rfl⟩) (.inl ⟨rfl, rfl⟩) rfl rfl ⟨by omega, by omega, by omega⟩)
  refine run ?_
  refine RegS.q ?_ (h := Rd.lenG rfl rfl rfl)
  refine run ?_
  refine RegS.q ?_ (h := Rd.lenG rfl rfl rfl)
  refine run ?_
  refine RegS.q ?_ (h := Rd.capG rfl rfl rfl)
  refine run ?_
  refine Wp.br (fun h => ?_) (fun h => ?_)
  · have h : (l.length : Int) + 1 > (c : Int) := h
    refine run ?_
    refine RegS.q ?_ (h := Rd.cutG (l := 0) (h := i) (m := c) rfl rfl hlc (.inl ⟨rfl, rfl⟩) (.inr ⟨_, _, rfl, rfl⟩) (.inl ⟨rfl, rfl⟩) rfl rfl ⟨by omega, by omega, by omega⟩)
    rw [gOff_zero]
    refine run ?_
    refine RegS.appendZ (e' := 0) (size := 2) (g := g) (off := 0) (sLen := i) (sCap := c) (kk := l.length + 1 - i) (olds := A) (e := 79) (z' := .agg #[S [], IV 0]) (by omega) (by omega) (by omega) lA (fun j v hj => ?_) ?_ (by omega) (fun G H1 hG hGm b1 x1 z1 => ?_)
    · have := hd_cells (A := []) (B := A) (D := D ++ rest) (by simpa using hb) j v hj 0 rfl
      exact this
    · show (i + (l.length + 1 - i)) * 24 ≤ _
      omega
    rw [show i + (l.length + 1 - i) = l.length + 1 by omega] at hG b1 ⊢
    obtain ⟨Z, hZ⟩ : ∃ Z : List Value, Z = (Builtin.zeroCells (Value.agg #[S [], IV 0]).cells (l.length + 1 - i)).toList ++ (Builtin.zeroCells (Value.agg #[S [], IV 0]).cells (G - (l.length + 1))).toList := ⟨_, rfl⟩
    rw [← hZ] at b1
    have lZ : Z.length = (G - i) * 2 := by rw [hZ, List.length_append, zeros_len, zeros_len]; omega
    clear hZ
    refine run ?_
    refine RegS.q ?_ (h := Rd.cutG (l := i) (h := l.length + 1) (m := G) rfl rfl (by omega) (.inr ⟨_, _, rfl, rfl⟩) (.inl ⟨rfl, rfl, rfl⟩) (.inl ⟨rfl, rfl⟩) rfl rfl ⟨by omega, by omega, by omega⟩)
    rw [gOff_ne (by omega), Nat.zero_add]
    have hv1 := hv.ext x1
    have vX1 : ∀ j v, X[j]? = some v → hcell H1 ((⟨vb, 0, none⟩ : Addr).add j) = some v := fun j v hj => by
      rw [Addr.add_lit, blk_cell hv1.at_]; simpa using hj
    refine run ?_
    refine RegS.copyG (size := 2) (g := H.size) (off := i * 2) (dLen := l.length + 1 - i) (sLen := 1) X b1 (by rw [List.length_append]; omega) (by rw [lX, nmin_l (by omega)]) vX1 oX fun v2 => ?_
    have b2 : Blk (hsets H1 H.size (i * 2) X) H.size 79 (puts (A ++ Z) (i * 2) X) := Blk.sets X _ b1
    have c2 : Chg (· = H.size) H1 (hsets H1 H.size (i * 2) X) := hsets_chg H.size X (i * 2) H1
    rw [show puts (A ++ Z) (i * 2) X = A ++ X ++ Z.drop X.length by
      rw [← lA]
      exact puts_at X A _ (by omega)] at b2
    generalize hsets H1 H.size (i * 2) X = H2 at b2 c2 ⊢
    have hgl := hb.lt
    have hb2 := (hb.ext x1).chg c2 (by omega)
    refine run ?_
    refine RegP.q' ?_ (h := Rd.cutG (l := i + 1) (h := l.length + 1) (m := G) rfl rfl (by omega) (.inr ⟨_, _, rfl, rfl⟩) (.inl ⟨rfl, rfl, rfl⟩) (.inl ⟨rfl, rfl⟩) rfl rfl ⟨by omega, by omega, by omega⟩)
    rw [gOff_ne (by omega), Nat.zero_add]
    refine run ?_
    refine RegP.q' ?_ (h := Rd.cutG (l := i) (h := l.length) (m := c) rfl rfl hlc (.inr ⟨_, _, rfl, rfl⟩) (.inl ⟨rfl, rfl, rfl⟩) (.inl ⟨rfl, rfl⟩) rfl rfl ⟨by omega, by omega, by omega⟩)
    rw [gOff_ne (by omega), Nat.zero_add]
    refine run ?_
    refine RegP.copyG (size := 2) (g := H.size) (off := (i + 1) * 2) (dLen := l.length + 1 - (i + 1)) (sLen := l.length - i) (a := ⟨g, i * 2, none⟩) D b2 (by simp only [List.length_append, List.length_drop]; omega) (by rw [lC, nmin_l (by omega)]) (fun j v hj => hd_cells hb2 j v hj _ lA.symm) oD Proms.nil fun v3 => ?_
    have b3 : Blk (hsets H2 H.size ((i + 1) * 2) D) H.size 79 (puts (A ++ X ++ Z.drop X.length) ((i + 1) * 2) D) := Blk.sets D _ b2
    have c3 : Chg (· = H.size) H2 (hsets H2 H.size ((i + 1) * 2) D) := hsets_chg H.size D ((i + 1) * 2) H2
    have lAX : (A ++ X).length = (i + 1) * 2 := by rw [List.length_append]; omega
    rw [show puts (A ++ X ++ Z.drop X.length) ((i + 1) * 2) D = A ++ X ++ D ++ (Z.drop X.length).drop D.length by
      rw [← lAX]
      exact puts_at D (A ++ X) _ (by rw [List.length_drop]; omega)] at b3
    generalize hsets H2 H.size ((i + 1) * 2) D = H3 at b3 c3 ⊢
    refine run ?_
    refine ret1 ⟨Sl.own H.size (l.length + 1) G hG, rfl, OwnR.shut b3 hbase hG hGm ?_ ?_, (x1.then (c2.trans c3) fun b hb => by omega).chg _, .inr ⟨H.size, rfl, Nat.le_refl _⟩⟩
    · rw [List.length_append]; omega
    · simp only [List.length_append, List.length_drop]; omega
  · have h : ¬ (l.length : Int) + 1 > (c : Int) := h
    refine run ?_
    refine RegS.q ?_ (h := Rd.cutG (l := 0) (h := l.length + 1) (m := c) rfl rfl hlc (.inl ⟨rfl, rfl⟩) (.inr ⟨_, _, rfl, rfl⟩) (.inl ⟨rfl, rfl⟩) rfl rfl ⟨by omega, by omega, by omega⟩)
    rw [gOff_zero]
    refine run ?_
    refine RegS.q ?_ (h := Rd.cutG (l := i + 1) (h := l.length + 1) (m := c) rfl rfl (by omega) (.inr ⟨_, _, rfl, rfl⟩) (.inl ⟨rfl, rfl, rfl⟩) (.inl ⟨rfl, rfl⟩) rfl rfl ⟨by omega, by omega, by omega⟩)
    refine run ?_
    have hnil : A ++ D ++ rest ≠ [] := fun e => by
      have := congrArg List.length e
      rw [hl1] at this
      simp only [List.length_nil] at this
      omega
    refine RegS.look (.bool false) (fun w hw => overlaps_no hw hv hb hne hnil) ?_
    refine run ?_
    refine RegP.q' ?_ (h := Rd.cutG (l := i + 1) (h := l.length + 1) (m := c) rfl rfl (by omega) (.inr ⟨_, _, rfl, rfl⟩) (.inl ⟨rfl, rfl, rfl⟩) (.inl ⟨rfl, rfl⟩) rfl rfl ⟨by omega, by omega, by omega⟩)
    rw [gOff_ne (by omega), Nat.zero_add]
    refine run ?_
    refine RegP.q' ?_ (h := Rd.cutG (l := i) (h := l.length + 1) (m := c) rfl rfl (by omega) (.inr ⟨_, _, rfl, rfl⟩) (.inl ⟨rfl, rfl, rfl⟩) (.inl ⟨rfl, rfl⟩) rfl rfl ⟨by omega, by omega, by omega⟩)
    rw [gOff_ne (by omega), Nat.zero_add]
    refine run ?_
    refine RegP.copyG (size := 2) (g := g) (off := (i + 1) * 2) (dLen := l.length + 1 - (i + 1)) (sLen := l.length + 1 - i) (a := ⟨g, i * 2, none⟩) D hb (by rw [hl1]; omega) (by rw [lC, nmin_r (by omega)]; omega) (fun j v hj => hd_cells hb j v hj _ lA.symm) oD Proms.nil fun v3 => ?_
    have b2 : Blk (hsets H g ((i + 1) * 2) D) g 79 (puts (A ++ D ++ rest) ((i + 1) * 2) D) := Blk.sets D _ hb
    have c2 : Chg (· = g) H (hsets H g ((i + 1) * 2) D) := hsets_chg g D ((i + 1) * 2) H
    obtain ⟨W, hW⟩ : ∃ W, W = (D ++ rest).take 2 := ⟨_, rfl⟩
    obtain ⟨V, hV⟩ : ∃ V, V = (D ++ rest).drop 2 := ⟨_, rfl⟩
    have hDr : (D ++ rest).length = (c - i) * 2 := by simp only [List.length_append] at hl1 ⊢; omega
    have lW : W.length = 2 := by rw [hW, List.length_take, hDr]; omega
    have lV : V.length = (c - i) * 2 - 2 := by rw [hV, List.length_drop, hDr]
    have lAW : (A ++ W).length = (i + 1) * 2 := by rw [List.length_append]; omega
    rw [show puts (A ++ D ++ rest) ((i + 1) * 2) D = A ++ W ++ D ++ V.drop D.length by
      rw [show A ++ D ++ rest = A ++ W ++ V by rw [List.append_assoc, List.append_assoc, hW, hV, List.take_append_drop], ← lAW]
      exact puts_at D (A ++ W) _ (by omega)] at b2
    generalize hsets H g ((i + 1) * 2) D = H2 at b2 c2 ⊢
    have hv2 := hv.chg c2 hne
    have vX2 : ∀ j v, X[j]? = some v → hcell H2 ((⟨vb, 0, none⟩ : Addr).add j) = some v := fun j v hj => by
      rw [Addr.add_lit, blk_cell hv2.at_]; simpa using hj
    refine run ?_
    refine RegS.q ?_ (h := Rd.cutG (l := i) (h := l.length + 1) (m := c) rfl rfl (by omega) (.inr ⟨_, _, rfl, rfl⟩) (.inl ⟨rfl, rfl, rfl⟩) (.inl ⟨rfl, rfl⟩) rfl rfl ⟨by omega, by omega, by omega⟩)
    rw [gOff_ne (by omega), Nat.zero_add]
    refine run ?_
    refine RegS.copyG (size := 2) (g := g) (off := i * 2) (dLen := l.length + 1 - i) (sLen := 1) X b2 (by simp only [List.length_append]; omega) (by rw [lX, nmin_l (by omega)]) vX2 oX fun v4 => ?_
    have b3 : Blk (hsets H2 g (i * 2) X) g 79 (puts (A ++ W ++ D ++ V.drop D.length) (i * 2) X) := Blk.sets X _ b2
    have c3 : Chg (· = g) H2 (hsets H2 g (i * 2) X) := hsets_chg g X (i * 2) H2
    rw [show puts (A ++ W ++ D ++ V.drop D.length) (i * 2) X = A ++ X ++ D ++ V.drop D.length by
      rw [show A ++ W ++ D ++ V.drop D.length = A ++ (W ++ D ++ V.drop D.length) by simp only [List.append_assoc], ← lA]
      rw [puts_at X A _ (by simp only [List.length_append]; omega), lX, ← lW, List.append_assoc W, List.drop_left, ← List.append_assoc]] at b3
    generalize hsets H2 g (i * 2) X = H3 at b3 c3 ⊢
    refine run ?_
    refine ret1 ⟨Sl.own g (l.length + 1) c (by omega), rfl, OwnR.shut b3 hg (by omega) hcm ?_ ?_, (c2.trans c3).mono fun b _ e => (by rw [e]), .inl rfl⟩
    · simp only [List.length_append]; omega
    · simp only [List.length_append, List.length_drop]; omega
end Go.Proofs.YtaikdcnifijcoaaGreat
