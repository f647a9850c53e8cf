/-
  The walks of the reference's words of a book: its bytes; the same book?
-/
import Derived.Test.YtaikdcnifijcoaaVRec2
set_option linter.unusedVariables false
set_option linter.unusedSimpArgs false
namespace Go.Proofs.Ytaikdcnifijcoaa
open Go Go.Vc Go.Gf
set_option maxHeartbeats 8000000 in
theorem refDir_ok (k : BookA) (s : BookS) (H : Heap) (hk : BookIn H k s) (hm : BookSm k) : CallsH Try.prog 22 [.agg (bookC k s).toArray] H fun v H' => ∃ O : Sl, v = .tuple #[O.val, .bool (!bookBad k)] ∧ Bytes H' O (bookB k) ∧ Ext H H' ∧ ∀ b, O.blk = some b → H.size ≤ b := by
  have low := hk.low
  obtain ⟨f1, f2, f3, f4⟩ := hm
  refine CallsH.enter h22 Try.func22 rfl rfl rfl (by decide) fun u => run ?_
  refine RegS.boxA fun H1 x1 z1 b1 => ?_
  have hm1 := hk.ext x1
  have b1 : Blk H1 H.size 43 (bookC k s) := b1
  refine run ?_
  refine RegS.boxA fun H2 x2 z2 b2 => ?_
  have hB2 : BookAt H2 H1.size H1.size Sl.nil [] false := ⟨b2, OwnR.nil _ _ _ _, by simp [Sl.blk, Sl.nil], Nat.le_refl _⟩
  have w1 := putB_le [k.session, k.decided, k.epoch]
  have w2 := putB_le [(k.dir.length : Int)]
  have w3 := headsB_le k.dir
  have w3' := hdW_sm f2 k.dir.length (Nat.le_refl _)
  rw [List.take_length] at w3'
  have w4 := putB_le [(k.up.length : Int)]
  have w7 := putB_le k.commit
  have w8 := putB_le [(k.commit.length : Int)]
  simp only [List.length_cons, List.length_nil] at w1 w2 w4 w8
  have step : ∀ {A B : Heap}, Ext H1 A → Chg (fun b => H1.size ≤ b) A B → Ext H1 B := fun e c => e.then c fun _ h => h
  have lo1 : 0 < s.dir.len → ∀ b, s.dir.blk = some b → b < H1.size := hm1.dir.lt
  have lo3 : 0 < s.com.len → ∀ b, s.com.blk = some b → b < H1.size := hm1.com.lt
  refine run ?_
  refine RegS.buildSlice fun H3 o3 e3 z3 => ?_
  have r3 : RowF IV 0 H3 (Sl.fresh H2.size 3) [k.session, k.decided, k.epoch] := OwnR.rowF (f := IV) (l := [k.session, k.decided, k.epoch]) o3
  refine run ?_
  refine RegS.call (put_ok _ _ _ _ _ _ _ H3 (hB2.ext e3) r3 (hB2.new e3 fun b hb => OwnR.blk_ge o3 hb) (by simp) (by simp)) ?_
  rintro _ A1 ⟨O1, B1, c1⟩
  have E1 := step (x2.trans e3) c1
  have k1 := b1.ext E1
  rw [List.nil_append, Bool.false_or] at B1
  refine run ?_
  refine RegS.call (heads_ok _ _ _ _ _ _ k.dir A1 B1 (hm1.dir.ext E1) lo1 (by omega) (by omega) (fun j hj => by have := f2 j hj; omega) (by omega)) ?_
  rintro _ A2 ⟨O2, B2, c2⟩
  have E2 := step E1 c2
  have k2 := b1.ext E2
  have u2 := hm1.up.ext E2
  refine run ?_
  refine RegS.buildSlice fun H5 o5 e5 z5 => ?_
  have r5 : RowF IV 0 H5 (Sl.fresh A2.size 1) [(k.up.length : Int)] := OwnR.rowF (f := IV) (l := [(k.up.length : Int)]) o5
  refine run ?_
  refine RegS.call (put_ok _ _ _ _ _ _ _ H5 (B2.ext e5) r5 (B2.new e5 fun b hb => OwnR.blk_ge o5 hb) (by simp) (by simp only [List.length_append]; omega)) ?_
  rintro _ A5 ⟨O5, B5, c5⟩
  have E5 := step (E2.trans e5) c5
  have k5 := b1.ext E5
  have w9 : (putB (k.up.map flagI)).length ≤ 4 * k.up.length := by have := putB_le (k.up.map flagI); rwa [List.length_map] at this
  have u5 : RowF Value.bool false A5 s.up k.up := hm1.up.ext E5
  refine run ?_
  refine Wp.loop (ι := Nat × Sl) (fun i => [(1, ptrD H.size), (4, ptrD H1.size), (5, I64 i.1)])
    (fun i A => i.1 ≤ k.up.length ∧ BookAt A H1.size H1.size i.2 (putB [k.session, k.decided, k.epoch] ++ (putB [(k.dir.length : Int)] ++ headsB k.dir) ++ putB [(k.up.length : Int)] ++ putB ((k.up.map flagI).take i.1)) (badI [k.session, k.decided, k.epoch] || (badI [(k.dir.length : Int)] || badH k.dir) || badI [(k.up.length : Int)] || badI ((k.up.map flagI).take i.1)) ∧ Ext H1 A) (fun i => k.up.length - i.1) (0, O5) subs ⟨Nat.zero_le _, by simpa [putB, badI] using B5, E5⟩ ?_
  rintro ⟨i, P⟩ A ⟨hi, hBA, eA⟩
  have hi : i ≤ k.up.length := hi
  have eA : Ext H1 A := eA
  obtain ⟨bd, hbd⟩ : ∃ bd, bd = (badI [k.session, k.decided, k.epoch] || (badI [(k.dir.length : Int)] || badH k.dir) || badI [(k.up.length : Int)] || badI ((k.up.map flagI).take i)) := ⟨_, rfl⟩
  have hBA : BookAt A H1.size H1.size P (putB [k.session, k.decided, k.epoch] ++ (putB [(k.dir.length : Int)] ++ headsB k.dir) ++ putB [(k.up.length : Int)] ++ putB ((k.up.map flagI).take i)) bd := by rw [hbd]; exact hBA
  have bA := b1.ext eA
  have uA := hm1.up.ext eA
  have htk := putB_le ((k.up.map flagI).take i)
  rw [List.length_take, List.length_map] at htk
  show Wp _ _ _ [(1, ptrD H.size), (4, ptrD H1.size), (5, I64 i)] _ _
  refine run ?_
  refine Wp.br (fun hlt => ?_) (fun hlt => ?_)
  · have hlt : (i : Int) < (k.up.length : Int) := hlt
    have hit : i < k.up.length := by omega
    have hA : (k.up.map flagI).take (i + 1) = (k.up.map flagI).take i ++ [flagI (k.up.getD i false)] := by
      rw [take_snoc' 0 (by rw [List.length_map]; exact hit)]
      congr 2
      simp [List.getD_eq_getElem?_getD, hit]
    have fin : ∀ (C D : Heap) (Q : Sl) (x : Int), x = flagI (k.up.getD i false) → Ext A C → BookAt D H1.size H1.size Q ((putB [k.session, k.decided, k.epoch] ++ (putB [(k.dir.length : Int)] ++ headsB k.dir) ++ putB [(k.up.length : Int)] ++ putB ((k.up.map flagI).take i)) ++ putB [x]) (bd || badI [x]) → Chg (fun b => H1.size ≤ b) C D →
        BookAt D H1.size H1.size Q (putB [k.session, k.decided, k.epoch] ++ (putB [(k.dir.length : Int)] ++ headsB k.dir) ++ putB [(k.up.length : Int)] ++ putB ((k.up.map flagI).take (i + 1))) (badI [k.session, k.decided, k.epoch] || (badI [(k.dir.length : Int)] || badH k.dir) || badI [(k.up.length : Int)] || badI ((k.up.map flagI).take (i + 1))) ∧ Ext H1 D := by
      intro C D Q x hx eC hB hc
      subst hx
      refine ⟨?_, step (eA.trans eC) hc⟩
      rw [hA, badI_append]
      have : putB ((k.up.map flagI).take i ++ [flagI (k.up.getD i false)]) = putB ((k.up.map flagI).take i) ++ putB [flagI (k.up.getD i false)] := by rw [putB_snoc]; simp [putB]
      rw [this, ← List.append_assoc, ← Bool.or_assoc, ← hbd]
      exact hB
    refine run ?_
    refine Wp.brB (fun hu => ?_) (fun hu => ?_) <;> refine run ?_
    · refine RegS.buildSlice fun A1 o1 y1 v1 => ?_
      have r1 : RowF IV 0 A1 (Sl.fresh A.size 1) [1] := OwnR.rowF (f := IV) (l := [1]) o1
      refine run ?_
      refine RegS.call (put_ok _ _ _ _ _ _ _ A1 (hBA.ext y1) r1 (hBA.new y1 fun b hb => OwnR.blk_ge o1 hb) (by simp) (by simp only [List.length_append]; omega)) ?_
      rintro _ A2 ⟨Q, B2, c2⟩
      refine run ?_
      obtain ⟨f1, f2⟩ := fin A1 A2 Q 1 (by rw [hu]; rfl) y1 B2 c2
      exact roundQ_n (i + 1, Q) subs ⟨hit, f1, f2⟩ (by show k.up.length - (i + 1) < k.up.length - i; omega)
    · refine RegS.buildSlice fun A1 o1 y1 v1 => ?_
      have r1 : RowF IV 0 A1 (Sl.fresh A.size 1) [0] := OwnR.rowF (f := IV) (l := [0]) o1
      refine run ?_
      refine RegS.call (put_ok _ _ _ _ _ _ _ A1 (hBA.ext y1) r1 (hBA.new y1 fun b hb => OwnR.blk_ge o1 hb) (by simp) (by simp only [List.length_append]; omega)) ?_
      rintro _ A2 ⟨Q, B2, c2⟩
      refine run ?_
      obtain ⟨f1, f2⟩ := fin A1 A2 Q 0 (by rw [hu]; rfl) y1 B2 c2
      exact roundQ_n (i + 1, Q) subs ⟨hit, f1, f2⟩ (by show k.up.length - (i + 1) < k.up.length - i; omega)
  · have hlt : ¬ (i : Int) < (k.up.length : Int) := hlt
    have hie : i = k.up.length := by omega
    subst hie
    rw [show (k.up.map flagI).take k.up.length = k.up.map flagI from List.take_of_length_le (by simp)] at hBA hbd
    refine run ?_
    refine RegS.call (ints_ok _ _ _ _ _ _ k.commit A hBA (hm1.com.ext eA) lo3 (by omega) (by simp only [List.length_append]; omega)) ?_
    rintro _ A6 ⟨O6, B6, c6⟩
    have E6 := step eA c6
    have k6 := b1.ext E6
    have k9 := B6.blk
    refine run ?_
    have hg : ∀ b, O6.blk = some b → H.size ≤ b := fun b hb => by have := (OwnR.blk_ge B6.own hb).1; omega
    refine ret2 ⟨O6, ?_, ?_, x1.trans E6, hg⟩
    · rw [hbd]
      have : bookBad k = (badI [k.session, k.decided, k.epoch] || (badI [(k.dir.length : Int)] || badH k.dir) || badI [(k.up.length : Int)] || badI (k.up.map flagI) || (badI [(k.commit.length : Int)] || badI k.commit)) := by
        rw [bookBad, show [k.session, k.decided, k.epoch, (k.dir.length : Int)] = [k.session, k.decided, k.epoch] ++ [(k.dir.length : Int)] from rfl, badI_append]
        simp only [Bool.or_assoc]
      rw [this]
    · have := OwnR.rowF (f := Go.Vc.B8) (dd := 0) B6.own
      exact this
theorem bookSm_fit {n : Nat} {k : BookA} (h : BookFit n k) (hn : n ≤ 255) : BookSm k := (bookFit_good h hn).2
/-- The same book? -/
theorem refSame_ok (k l : BookA) (s t : BookS) (H : Heap) (hk : BookIn H k s) (hl : BookIn H l t) (mk : BookSm k) (ml : BookSm l) : CallsH Try.prog 11 [.agg (bookC k s).toArray, .agg (bookC l t).toArray] H fun v H' => v = .bool (dec (bookB k = bookB l)) ∧ Ext H H' := by
  refine CallsH.enter h11 Try.func11 rfl rfl rfl (by decide) fun u => run ?_
  refine RegS.boxA fun H1 x1 z1 b1 => ?_
  have b1 : Blk H1 H.size 43 (bookC k s) := b1
  refine run ?_
  refine RegS.boxA fun H2 x2 z2 b2 => ?_
  have b2 : Blk H2 H1.size 43 (bookC l t) := b2
  have b12 := b1.ext x2
  have x02 := x1.trans x2
  refine run ?_
  refine RegS.call (refDir_ok k s H2 (hk.ext x02) mk) ?_
  rintro _ H3 ⟨a, rfl, ra, x3, _⟩
  have b3 := b2.ext x3
  refine run ?_
  refine RegS.call (refDir_ok l t H3 (hl.ext (x02.trans x3)) ml) ?_
  rintro _ H4 ⟨b, rfl, rb, x4, _⟩
  have ra4 := Bytes.ext ra x4
  refine run ?_
  exact ret1 ⟨rfl, (x02.trans x3).trans x4⟩
end Go.Proofs.Ytaikdcnifijcoaa
