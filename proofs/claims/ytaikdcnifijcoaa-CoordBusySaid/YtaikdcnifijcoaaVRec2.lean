/-
  The walk of rec.DecodeBook, at a book's own bytes.
-/
import Derived.Test.YtaikdcnifijcoaaVRec
import Derived.Test.YtaikdcnifijcoaaVRead
set_option linter.unusedVariables false
set_option linter.unusedSimpArgs false
namespace Go.Proofs.Ytaikdcnifijcoaa
open Go Go.Vc Go.Gf

theorem count_ok {H : Heap} {base rb : Nat} {s : Sl} (n most : Nat) (rest : List UInt8) (hr : ReadAt H base rb s (intB (n : Int) ++ rest) false) (hn : n ≤ 2147483645) (hm : n ≤ most) : CallsH Try.prog 46 [.agg #[ptrD rb, I64 most]] H fun v H' => ∃ t, v = I64 n ∧ ReadAt H' base rb t rest false ∧ Chg (· = rb) H H' := by
  have hlt := hr.blk.lt
  refine CallsH.enter h46 Try.func46 rfl rfl rfl (by decide) fun u => go ?_
  refine RegS.boxA fun H1 x1 z1 b1 => ?_
  refine run ?_
  refine RegS.call (rint_ok (n : Int) rest (hr.ext x1) (by omega)) ?_
  rintro _ H2 ⟨t, rfl, r2, c2⟩
  have b2 := b1.chg c2 (by omega)
  refine run ?_
  rw [show max n 0 = n by omega]
  refine run ?_
  exact ret1 ⟨t, rfl, r2, (x1.chg _).trans c2⟩
theorem bookB_seq (k : BookA) : bookB k = intB k.session ++ (intB k.decided ++ (intB k.epoch ++ (intB (k.dir.length : Int) ++ (headsB k.dir ++ (intB (k.up.length : Int) ++ (putB (k.up.map flagI) ++ (intB (k.commit.length : Int) ++ putB k.commit))))))) := by
  simp [bookB, putB, List.append_assoc]
theorem getD_get {α : Type} {l : List α} (d : α) {i : Nat} (hi : i < l.length) : l.getD i d = l[i] := by
  rw [List.getD_eq_getElem?_getD, List.getElem?_eq_getElem hi]; rfl
theorem headsB_drop {l : List HdT} {i : Nat} (hi : i < l.length) : headsB (l.drop i) = layB (l.getD i ([], 0)).1 ++ (intB (l.getD i ([], 0)).2 ++ headsB (l.drop (i + 1))) := by
  rw [List.drop_eq_getElem_cons hi, getD_get ([], 0) hi]
  simp only [headsB, putB, List.flatMap_cons, List.flatMap_nil, List.append_nil, List.append_assoc]
theorem putB_drop {l : List Int} {i : Nat} (hi : i < l.length) : putB (l.drop i) = intB (l.getD i 0) ++ putB (l.drop (i + 1)) := by
  rw [List.drop_eq_getElem_cons hi, getD_get 0 hi]
  simp only [putB, List.flatMap_cons]
theorem bookFit_good {n : Nat} {k : BookA} (h : BookFit n k) (hn : n ≤ 255) : bookBad k = false ∧ BookSm k := by
  have d8 := h.dir
  have hup := h.up
  have hcm := h.commit
  have one : ∀ z : Int, -2 ≤ z ∧ z ≤ 2147483645 → decide (z < -2 ∨ 2147483645 < z) = false := fun z hz => decide_eq_false (by omega)
  refine ⟨?_, by omega, fun j hj => ?_, by omega, by omega⟩
  · have b1 : badI [k.session, k.decided, k.epoch, (k.dir.length : Int)] = false := by
      have := h.session; have := h.decided; have := h.epoch
      simp only [badI, List.any_cons, List.any_nil, one k.session (by omega), one k.decided (by omega), one k.epoch (by omega), one (k.dir.length : Int) (by omega), Bool.or_false]
    have b2 : badH k.dir = false := by
      refine List.any_eq_false.2 fun x hx => ?_
      have := h.each x hx
      simp only [badL, badI, List.any_cons, List.any_nil, one x.2 (by omega), decide_eq_false (show ¬ 65535 < x.1.length by omega), Bool.or_false]; simp
    have b3 : badI [(k.up.length : Int)] = false := by simp only [badI, List.any_cons, List.any_nil, one (k.up.length : Int) (by omega), Bool.or_false]
    have b4 : badI (k.up.map flagI) = false := by
      refine List.any_eq_false.2 fun x hx => ?_
      obtain ⟨b, _, rfl⟩ := List.mem_map.1 hx
      rw [one _ (by unfold flagI; split <;> omega)]; simp
    have b5 : badI [(k.commit.length : Int)] = false := by simp only [badI, List.any_cons, List.any_nil, one (k.commit.length : Int) (by omega), Bool.or_false]
    have b6 : badI k.commit = false := by
      refine List.any_eq_false.2 fun x hx => ?_
      have := h.com x hx
      rw [one x (by omega)]; simp
    rw [bookBad, b1, b2, b3, b4, b5, b6]; rfl
  · have := h.each (k.dir.getD j ([], 0)) (by rw [List.getD_eq_getElem?_getD, List.getElem?_eq_getElem hj]; exact List.getElem_mem _)
    omega
theorem bookB_len {n : Nat} {k : BookA} (h : BookFit n k) (hn : n ≤ 255) : (bookB k).length ≤ 3000 := by
  have d8 := h.dir
  have hup := h.up
  have hcm := h.commit
  have w1 := headsB_le k.dir
  have w2 : ∀ i, i ≤ k.dir.length → hdW (k.dir.take i) ≤ 22 * i := by
    intro i
    induction i with
    | zero => intro _; simp [hdW]
    | succ i ih =>
      intro hi
      have h1 := ih (by omega)
      rw [take_snoc' ([], 0) (show i < k.dir.length by omega)]
      have := h.each (k.dir.getD i ([], 0)) (by rw [List.getD_eq_getElem?_getD, List.getElem?_eq_getElem (show i < k.dir.length by omega)]; exact List.getElem_mem _)
      unfold hdW at *
      rw [List.map_append, List.sum_append]
      simp only [List.map_cons, List.map_nil, List.sum_cons, List.sum_nil]
      omega
  have w3 := w2 k.dir.length (Nat.le_refl _)
  rw [List.take_length] at w3
  have w4 := putB_le (k.up.map flagI)
  have w5 := putB_le k.commit
  have i1 := intB_le k.session
  have i2 := intB_le k.decided
  have i3 := intB_le k.epoch
  have i4 := intB_le (k.dir.length : Int)
  have i5 := intB_le (k.up.length : Int)
  have i6 := intB_le (k.commit.length : Int)
  rw [List.length_map] at w4
  rw [bookB_seq]
  simp only [List.length_append]
  omega
theorem sEqual_ok (s t : Sl) (l m : List UInt8) (H : Heap) (hs : Bytes H s l) (ht : Bytes H t m) (hl : l.length ≤ 140737488355328) : CallsH Try.prog 50 [s.val, t.val] H fun v H' => v = .bool (dec (l = m)) ∧ H = H' := by
  have l1 := hs.len
  have l2 := ht.len
  refine CallsH.enter h50 Try.func50 rfl rfl rfl (by decide) fun u => run ?_
  refine Wp.br (fun h => ?_) (fun h => ?_) <;> refine run ?_
  · refine ret1 ⟨?_, rfl⟩
    rw [dec_neg (show ¬ l = m from fun e => h (by rw [e]))]
  have hlm : l.length = m.length := by
    have h : ¬ ((l.length : Int) ≠ (m.length : Int)) := h
    omega
  refine Wp.loop (ι := Nat) (fun i => [(0, s.val), (1, t.val), (12, I64 l.length), (13, I64 i)])
    (fun i A => A = H ∧ i ≤ l.length ∧ l.take i = m.take i) (fun i => l.length - i) 0 subs ⟨rfl, Nat.zero_le _, rfl⟩ ?_
  rintro i A ⟨rfl, hi, he⟩
  refine run ?_
  refine Wp.br (fun hlt => ?_) (fun hlt => ?_) <;> refine run ?_
  · have hlt : (i : Int) < (l.length : Int) := hlt
    refine Wp.br (fun h => ?_) (fun h => ?_) <;> refine run ?_
    · refine ret1 ⟨?_, rfl⟩
      rw [dec_neg (show ¬ l = m from fun e => h (by rw [e]))]
    · refine roundQ_n (i + 1) subs ⟨rfl, by omega, ?_⟩ (by omega)
      rw [take_snoc' 0 (show i < l.length by omega), take_snoc' 0 (show i < m.length by omega), he, Classical.not_not.1 h]
  · have hlt : ¬ (i : Int) < (l.length : Int) := hlt
    refine ret1 ⟨?_, rfl⟩
    have e1 := List.take_of_length_le (l := l) (i := i) (by omega)
    have e2 := List.take_of_length_le (l := m) (i := i) (by omega)
    rw [e1, e2] at he
    rw [dec_pos he]
end Go.Proofs.Ytaikdcnifijcoaa
