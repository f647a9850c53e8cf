/-
  The walk of rec.EncodeBook.
-/
import Derived.Test.YtaikdcnifijcoaaGreatQ15
set_option linter.unusedVariables false
set_option linter.unusedSimpArgs false
namespace Go.Proofs.YtaikdcnifijcoaaGreat
open Go Go.Vc Go.Gf
/-- A book's slices. -/
structure BookS where
  dir : Sl
  up : Sl
  com : Sl
abbrev bookC (k : BookA) (s : BookS) : List Value := [IV k.session, IV k.decided, IV k.epoch, s.dir.val, s.up.val, s.com.val]
structure BookIn (H : Heap) (k : BookA) (s : BookS) : Prop where
  dir : HRow H s.dir k.dir
  up : RowF Value.bool false H s.up k.up
  com : RowF IV 0 H s.com k.commit
theorem BookIn.ext {H H' : Heap} {k : BookA} {s : BookS} (h : BookIn H k s) (e : Ext H H') : BookIn H' k s := ⟨h.dir.ext e, h.up.ext e, h.com.ext e⟩
/-- A book's slices, new and all apart. -/
structure BookNew (H H' : Heap) (k : BookA) (s : BookS) : Prop where
  dir : OwnR H' H.size 79 2 s.dir (k.dir.flatMap hdV)
  up : OwnF Value.bool H' H.size 4 s.up k.up
  com : OwnF IV H' H.size 3 s.com k.commit
  du : ∀ b, s.dir.blk = some b → s.up.blk ≠ some b ∧ s.com.blk ≠ some b
  uc : ∀ b, s.up.blk = some b → s.com.blk ≠ some b
theorem BookNew.chg {S : Nat → Prop} {H0 H H1 H2 : Heap} {k : BookA} {s : BookS} (h : BookNew H0 H1 k s) (c : Chg S H1 H2) (hs : ∀ b, H0.size ≤ b → b < H1.size → ¬ S b) (hle : H.size ≤ H0.size) : BookNew H H2 k s :=
  ⟨(OwnR.chg h.dir c fun b hb => hs b (OwnR.blk_ge h.dir hb).1 (OwnR.blk_ge h.dir hb).2).low hle, (OwnR.chg h.up c fun b hb => hs b (OwnR.blk_ge h.up hb).1 (OwnR.blk_ge h.up hb).2).low hle, (OwnR.chg h.com c fun b hb => hs b (OwnR.blk_ge h.com hb).1 (OwnR.blk_ge h.com hb).2).low hle, h.du, h.uc⟩
structure BookLow (H : Heap) (s : BookS) : Prop where
  dir : 0 < s.dir.len → ∀ b, s.dir.blk = some b → b < H.size
  up : 0 < s.up.len → ∀ b, s.up.blk = some b → b < H.size
  com : 0 < s.com.len → ∀ b, s.com.blk = some b → b < H.size
theorem BookIn.low {H : Heap} {k : BookA} {s : BookS} (h : BookIn H k s) : BookLow H s := ⟨h.dir.lt, h.up.lt, h.com.lt⟩
theorem BookIn.chg {S : Nat → Prop} {H0 H H' : Heap} {k : BookA} {s : BookS} (h : BookIn H k s) (l : BookLow H0 s) (c : Chg S H H') (hs : ∀ b, b < H0.size → ¬ S b) : BookIn H' k s :=
  ⟨h.dir.chgN c fun hp b hb => hs b (l.dir hp b hb), h.up.chgN c fun hp b hb => ⟨h.up.lt hp b hb, hs b (l.up hp b hb)⟩, h.com.chgN c fun hp b hb => ⟨h.com.lt hp b hb, hs b (l.com hp b hb)⟩⟩
def bookBad (k : BookA) : Bool := badI [k.session, k.decided, k.epoch, (k.dir.length : Int)] || badH k.dir || badI [(k.up.length : Int)] || badI (k.up.map flagI) || badI [(k.commit.length : Int)] || badI k.commit
structure BookSm (k : BookA) : Prop where
  dir : k.dir.length ≤ 1000
  each : ∀ j, j < k.dir.length → (k.dir.getD j ([], 0)).1.length ≤ 1000
  up : k.up.length ≤ 1000
  com : k.commit.length ≤ 1000
theorem flag_ok (b : Bool) (H : Heap) : CallsH Tryz.prog 213 [.bool b] H fun v H' => v = IV (flagI b) ∧ H = H' := by
  refine CallsH.enter h213 Tryz.func213 rfl rfl rfl (by decide) fun u => run ?_
  refine Wp.brB (fun h => ?_) (fun h => ?_) <;> refine run ?_
  · subst h; exact ret1 ⟨rfl, rfl⟩
  · subst h; exact ret1 ⟨rfl, rfl⟩
theorem hdW_sm {l : List HdT} (hx : ∀ j, j < l.length → (l.getD j ([], 0)).1.length ≤ 1000) : ∀ i, i ≤ l.length → hdW (l.take i) ≤ 1006 * i
  | 0, _ => by simp [hdW]
  | i + 1, h => by
    have ih := hdW_sm hx i (by omega)
    have e : l.take (i + 1) = l.take i ++ [l.getD i ([], 0)] := by
      rw [List.take_add_one, List.getElem?_eq_getElem (by omega)]
      simp [List.getD_eq_getElem?_getD, show i < l.length by omega]
    rw [e]
    unfold hdW at *
    rw [List.map_append, List.sum_append]
    have := hx i (by omega)
    simp only [List.map_cons, List.map_nil, List.sum_cons, List.sum_nil]
    omega
theorem take_snoc' {β : Type} (d : β) {l : List β} {i : Nat} (hi : i < l.length) : l.take (i + 1) = l.take i ++ [l.getD i d] := by
  rw [List.take_add_one, List.getElem?_eq_getElem hi]
  simp [List.getD_eq_getElem?_getD, hi]
set_option maxHeartbeats 8000000 in
theorem encodeBook_ok (k : BookA) (s : BookS) (H : Heap) (hk : BookIn H k s) (hm : BookSm k) : CallsH Tryz.prog 146 [.agg (bookC k s).toArray] H fun v H' => ∃ c : Sl, v = .tuple #[c.val, .bool (!bookBad k)] ∧ Bytes H' c (if bookBad k = true then [] else bookB k) ∧ Ext H H' ∧ ∀ b, c.blk = some b → H.size ≤ b := by
  have lowH := hk.low
  obtain ⟨m1, m2, m3, m4⟩ := hm
  refine CallsH.enter h146 Tryz.func146 rfl rfl rfl (by decide) fun u => go ?_
  refine RegS.boxA fun H1 x1 z1 b1 => ?_
  have b1 : Blk H1 H.size 55 [IV k.session, IV k.decided, IV k.epoch, s.dir.val, s.up.val, s.com.val] := b1
  refine run ?_
  refine RegS.call (wnew_ok H1) ?_
  rintro _ H2 ⟨rfl, p2, x2⟩
  refine run ?_
  refine RegS.allocA fun H3 x3 z3 b3 => ?_
  have b3 : Blk H3 H2.size 246 [.pointer none] := b3
  refine run ?_
  refine RegS.storeA b3 ?_
  have b4 : Blk (hsets H3 H2.size 0 [ptrD H1.size]) H2.size 246 [ptrD H1.size] := Blk.sets [ptrD H1.size] 0 b3
  have x4 : Ext H2 (hsets H3 H2.size 0 [ptrD H1.size]) := x3.then (hsets_chg H2.size [ptrD H1.size] 0 H3) fun b hb => by omega
  generalize hsets H3 H2.size 0 [ptrD H1.size] = H4 at b4 x4 ⊢
  have b14 := b1.ext (x2.trans x4)
  have x04 := (x1.trans x2).trans x4
  have k4 := hk.ext x04
  have p4 := p2.ext x4
  have lt2 := b1.lt
  have lt4 := b4.lt
  have ltw := p2.blk.lt
  have loc : ∀ {A : Heap} {P : Sl}, PenTo H4 A H1.size Sl.nil P → Blk A H.size 55 [IV k.session, IV k.decided, IV k.epoch, s.dir.val, s.up.val, s.com.val] ∧ Blk A H2.size 246 [ptrD H1.size] ∧ BookIn A k s ∧ Ext H A := fun t => by
    have no : ∀ b, b < H4.size → b ≠ H1.size → ¬ (b = H1.size ∨ Sl.nil.blk = some b) := fun b _ hb e => e.elim hb (by simp [Sl.blk, Sl.nil])
    exact ⟨b14.chg t.chg (no _ (by omega) (by omega)), b4.chg t.chg (no _ lt4 (by omega)), k4.chg lowH t.chg fun b hb => no b (by omega) (by omega), x04.then t.chg fun b hb => by
      rcases hb with hb | hb
      · omega
      · simp [Sl.blk, Sl.nil] at hb⟩
  have hkd := k4.dir
  refine run ?_
  refine RegS.buildSlice fun H5 o5 y5 w5 => ?_
  have r5 : RowF IV 0 H5 (Sl.fresh H4.size 4) [k.session, k.decided, k.epoch, (k.dir.length : Int)] := OwnR.rowF (f := IV) (l := [k.session, k.decided, k.epoch, (k.dir.length : Int)]) o5
  refine run ?_
  refine RegS.call (pints_ok _ _ (p4.ext y5) r5 (p4.new y5 fun b hb => OwnR.blk_ge o5 hb) (by simp) (by simp)) ?_
  rintro _ H6 ⟨P6, p6, t6⟩
  have t46 := (penE y5).trans t6
  obtain ⟨l1, l2, l3, l4⟩ := loc t46
  have hkd6 := l3.dir
  rw [List.nil_append, Bool.false_or] at p6
  have hw4 := putB_le [k.session, k.decided, k.epoch, (k.dir.length : Int)]
  simp only [List.length_cons, List.length_nil] at hw4
  refine run ?_
  refine Wp.loop (ι := Nat × Sl) (fun i => [(1, ptrD H.size), (4, ptrD H2.size), (24, s.dir.val), (25, I64 k.dir.length), (26, I64 i.1)])
    (fun i A => i.1 ≤ k.dir.length ∧ PenAt A H1.size H1.size i.2 (putB [k.session, k.decided, k.epoch, (k.dir.length : Int)] ++ headsB (k.dir.take i.1)) (badI [k.session, k.decided, k.epoch, (k.dir.length : Int)] || badH (k.dir.take i.1)) ∧ PenTo H4 A H1.size Sl.nil i.2) (fun i => k.dir.length - i.1) (0, P6) subs ⟨Nat.zero_le _, by simpa [headsB, badH] using p6, t46⟩ ?_
  rintro ⟨i, P⟩ A ⟨hi, pA, tA⟩
  have hi : i ≤ k.dir.length := hi
  have pA : PenAt A H1.size H1.size P (putB [k.session, k.decided, k.epoch, (k.dir.length : Int)] ++ headsB (k.dir.take i)) (badI [k.session, k.decided, k.epoch, (k.dir.length : Int)] || badH (k.dir.take i)) := pA
  obtain ⟨q1, q2, q3, q4⟩ := loc tA
  have hdA := q3.dir
  have hwi := hdW_sm m2 i hi
  have hhi := headsB_le (k.dir.take i)
  refine run ?_
  refine Wp.br (fun hlt => ?_) (fun hlt => ?_)
  · have hlt : (i : Int) < (k.dir.length : Int) := hlt
    have hid := m2 i (by omega)
    refine run ?_
    refine RegS.allocA fun A1 y1 v1 c1 => ?_
    have c1 : Blk A1 A.size 79 [S [], IV 0] := c1
    refine run ?_
    refine RegS.storeA c1 ?_
    have c2 : Blk (hsets A1 A.size 0 [S (k.dir.getD i ([], 0)).1, IV (k.dir.getD i ([], 0)).2]) A.size 79 [S (k.dir.getD i ([], 0)).1, IV (k.dir.getD i ([], 0)).2] := Blk.sets [S (k.dir.getD i ([], 0)).1, IV (k.dir.getD i ([], 0)).2] 0 c1
    have y2 : Ext A (hsets A1 A.size 0 [S (k.dir.getD i ([], 0)).1, IV (k.dir.getD i ([], 0)).2]) := y1.then (hsets_chg A.size [S (k.dir.getD i ([], 0)).1, IV (k.dir.getD i ([], 0)).2] 0 A1) fun b hb => by omega
    generalize hsets A1 A.size 0 [S (k.dir.getD i ([], 0)).1, IV (k.dir.getD i ([], 0)).2] = A2 at c2 y2 ⊢
    have q22 := q2.ext y2
    refine run ?_
    refine RegS.convStrN fun s1 A3 r3 y3 g3 => ?_
    have pA3 := pA.ext (y2.trans y3)
    have hlt3 := c2.lt
    refine run ?_
    have hb4 : (putB [k.session, k.decided, k.epoch, (k.dir.length : Int)] ++ headsB (k.dir.take i) ++ layB (k.dir.getD i ([], 0)).1).length ≤ 100000000 := by
      have := layB_le (k.dir.getD i ([], 0)).1
      simp only [List.length_append]; omega
    refine RegS.call (wbytes_ok s1 _ pA3 r3 ((pA.ext y2).new y3 g3) (by omega) (by rw [List.length_append]; omega)) ?_
    rintro _ A4 ⟨P4, pA4, tA4⟩
    have no : ∀ b, b < A2.size → b ≠ H1.size → (∀ x, P.blk = some x → x < A.size) → ¬ (P.blk = some b ∧ A.size ≤ b) := fun b _ _ h e => by have := h b e.1; omega
    have hPlt : ∀ x, P.blk = some x → x < A.size := fun x hx => (pA.own.blk_ge hx).2
    have tA4' := ((penE y2).trans (penE y3)).trans tA4
    have c4 := (c2.ext y3).chg tA4.chg fun e => by
      rcases e with e | e
      · have := pA.blk.lt; omega
      · have := hPlt _ e; omega
    obtain ⟨n1, n2, n3, n4⟩ := loc (tA.trans tA4')
    refine run ?_
    refine RegS.call (wint_ok (k.dir.getD i ([], 0)).2 pA4 hb4) ?_
    rintro _ A5 ⟨P5, pA5, tA5⟩
    refine run ?_
    refine roundQ_n (i + 1, P5) subs ⟨by simp only; omega, ?_, (tA.trans tA4').trans tA5⟩ (by simp only; omega)
    show PenAt A5 H1.size H1.size P5 (putB [k.session, k.decided, k.epoch, (k.dir.length : Int)] ++ headsB (k.dir.take (i + 1))) (badI [k.session, k.decided, k.epoch, (k.dir.length : Int)] || badH (k.dir.take (i + 1)))
    have e0 : putB [(k.dir.getD i ([], 0)).2] = intB (k.dir.getD i ([], 0)).2 := by simp [putB]
    rw [take_snoc' ([], 0) (show i < k.dir.length by omega), headsB_snoc, badH_snoc, e0]
    simp only [← List.append_assoc, ← Bool.or_assoc]
    exact pA5
  · have hlt : ¬ (i : Int) < (k.dir.length : Int) := hlt
    have hie : i = k.dir.length := by omega
    subst hie
    rw [List.take_length] at pA hhi hwi
    have hup := q3.up
    refine run ?_
    refine RegS.call (wint_ok (k.up.length : Int) pA (by rw [List.length_append]; omega)) ?_
    rintro _ A1 ⟨P1, pA1, tA1⟩
    have t1 := tA.trans tA1
    obtain ⟨n1, n2, n3, n4⟩ := loc t1
    have hup1 := n3.up
    refine run ?_
    have hwu := putB_le [(k.up.length : Int)]
    have hw5 := headsB_le k.dir
    have hw6 := hdW_sm m2 k.dir.length (Nat.le_refl _)
    rw [List.take_length] at hw6
    simp only [List.length_cons, List.length_nil] at hwu
    obtain ⟨out1, ho1⟩ : ∃ out1, out1 = putB [k.session, k.decided, k.epoch, (k.dir.length : Int)] ++ headsB k.dir ++ intB (k.up.length : Int) := ⟨_, rfl⟩
    obtain ⟨bd1, hbd1⟩ : ∃ bd1, bd1 = (badI [k.session, k.decided, k.epoch, (k.dir.length : Int)] || badH k.dir || badI [(k.up.length : Int)]) := ⟨_, rfl⟩
    rw [← ho1, ← hbd1] at pA1
    have hol : out1.length ≤ 2000000 := by
      have := intB_le (k.up.length : Int)
      rw [ho1, List.length_append, List.length_append]; omega
    refine Wp.loop (ι := Nat × Sl) (fun i => [(1, ptrD H.size), (4, ptrD H2.size), (49, s.up.val), (50, I64 k.up.length), (51, I64 i.1)])
      (fun i A => i.1 ≤ k.up.length ∧ PenAt A H1.size H1.size i.2 (out1 ++ putB ((k.up.take i.1).map flagI)) (bd1 || badI ((k.up.take i.1).map flagI)) ∧ PenTo H4 A H1.size Sl.nil i.2) (fun i => k.up.length - i.1) (0, P1) subs ⟨Nat.zero_le _, by simpa [putB, badI] using pA1, t1⟩ ?_
    rintro ⟨i, P2⟩ B ⟨hi2, pB, tB⟩
    have hi2 : i ≤ k.up.length := hi2
    have pB : PenAt B H1.size H1.size P2 (out1 ++ putB ((k.up.take i).map flagI)) (bd1 || badI ((k.up.take i).map flagI)) := pB
    obtain ⟨u1, u2, u3, u4⟩ := loc tB
    have hupB := u3.up
    have hpl := putB_le ((k.up.take i).map flagI)
    rw [List.length_map, List.length_take] at hpl
    refine run ?_
    refine Wp.br (fun hlt2 => ?_) (fun hlt2 => ?_)
    · have hlt2 : (i : Int) < (k.up.length : Int) := hlt2
      refine run ?_
      refine RegP.call (flag_ok (k.up.getD i false) B) ?_
      rintro _ _ ⟨rfl, rfl⟩
      refine ⟨.inl (Ext.refl _), ?_⟩
      refine run ?_
      refine RegP.call (wint_ok (flagI (k.up.getD i false)) pB (by rw [List.length_append]; omega)) ?_
      rintro _ B1 ⟨P3, pB1, tB1⟩
      obtain ⟨v1, v2, v3, v4⟩ := loc (tB.trans tB1)
      refine ⟨.inr proms2, ?_⟩
      refine run ?_
      refine roundQ_n (i + 1, P3) subs ⟨by simp only; omega, ?_, tB.trans tB1⟩ (by simp only; omega)
      show PenAt B1 H1.size H1.size P3 (out1 ++ putB ((k.up.take (i + 1)).map flagI)) (bd1 || badI ((k.up.take (i + 1)).map flagI))
      rw [take_snoc' false (show i < k.up.length by omega), List.map_append, List.map_cons, List.map_nil, putB_snoc, badI_snoc, ← List.append_assoc, ← Bool.or_assoc]
      exact pB1
    have hlt2 : ¬ (i : Int) < (k.up.length : Int) := hlt2
    have hie : i = k.up.length := by omega
    subst hie
    rw [List.take_length] at pB hpl
    have hcB := u3.com
    refine run ?_
    refine RegS.call (wint_ok (k.commit.length : Int) pB (by rw [List.length_append]; omega)) ?_
    rintro _ B1 ⟨P3, pB1, tB1⟩
    obtain ⟨v1, v2, v3, v4⟩ := loc (tB.trans tB1)
    have hcB1 := v3.com
    have hil := intB_le (k.commit.length : Int)
    refine run ?_
    refine RegS.call (pints_ok s.com k.commit pB1 hcB1 (pB1.old fun hp b hb => by have := lowH.com hp b hb; omega) (by omega) (by simp only [List.length_append]; omega)) ?_
    rintro _ B2 ⟨P4, pB2, tB2⟩
    obtain ⟨w1, w2, w3, w4⟩ := loc ((tB.trans tB1).trans tB2)
    have hpc := putB_le k.commit
    refine run ?_
    refine RegS.call (out_ok pB2 (by simp only [List.length_append]; omega)) ?_
    rintro _ B3 ⟨c, rfl, rc, x9, g9⟩
    refine run ?_
    have e1 : bookBad k = (bd1 || badI (k.up.map flagI) || badI [(k.commit.length : Int)] || badI k.commit) := by rw [hbd1]; rfl
    have e2 : bookB k = out1 ++ putB (k.up.map flagI) ++ intB (k.commit.length : Int) ++ putB k.commit := by
      rw [ho1]; simp [bookB, putB, List.append_assoc]
    rw [e1, e2]
    exact ret2 ⟨c, rfl, rc, w4.trans x9, fun b hb => Nat.le_trans w4.size (g9 b hb)⟩
end Go.Proofs.YtaikdcnifijcoaaGreat
