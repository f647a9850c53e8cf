/-
  The document's answers of layer 11, walked: enough? what is found, by all choices.
-/
import Derived.Test.YtgmemfcfjlndoaaGreatVRef10b
set_option linter.unusedVariables false
set_option linter.unusedSimpArgs false
namespace Go.Proofs.YtgmemfcfjlndoaaGreat
open Go Go.Vc Go.Gf

set_option maxHeartbeats 2000000 in
theorem renough_ok (N T K E R : Nat) (cols : Int) (s r : Sl) (ss : List Sl) (fl : List Int) (rows : List (List UInt8)) (H : Heap) (hs : RowF IV 0 H s fl) (hr : BRows H r ss rows) (hl : fl.length ≤ 9223372036854775806) (hT : T ≤ 255) (hK : K ≤ 255) (hE : E ≤ 255) :
    CallsH Tryz.prog 59 [pmV N T K E R, IV cols, s.val, r.val] H fun v H' => v = .bool (dec (enoughP N (T + K + E) cols fl rows)) ∧ Ext H H' := by
  have hrow := hr.row
  have hlen := hr.len
  refine CallsH.enter h59 Tryz.func59 rfl rfl rfl (by decide) fun u => go ?_
  refine RegS.boxA fun H0 x0 z0 b0 => ?_
  have hs0 := hs.ext x0
  have hr0 := hr.ext x0
  have hrow0 := hr0.row
  refine go ?_
  have no : ∀ A, Ext H A → ¬ enoughP N (T + K + E) cols fl rows → (Value.bool false = Value.bool (dec (enoughP N (T + K + E) cols fl rows)) ∧ Ext H A) := fun A x h => ⟨by rw [dec_neg h], x⟩
  refine RegS.sp (fun h1 => ?_) (fun h1 => ?_) <;> refine go ?_
  · exact ret1 (no H0 x0 fun k => h1 (by have := k.1; omega))
  refine RegS.sp (fun h2 => ?_) (fun h2 => ?_) <;> refine go ?_
  · exact ret1 (no H0 x0 fun k => by have := k.2.1; omega)
  refine Wp.br (fun h3 => ?_) (fun h3 => ?_) <;> refine go ?_
  · exact ret1 (no H0 x0 fun k => by have := k.2.2.1; omega)
  refine Wp.loop (ι := Nat) (fun i => [(1, IV cols), (2, s.val), (3, r.val), (4, .pointer (some ⟨H.size, 0, none⟩)), (9, I64 i)])
    (fun i A => i ≤ fl.length ∧ (∀ n, n < i → 0 ≤ fl.getD n 0 ∧ fl.getD n 0 < N ∧ fl.getD n 0 ∉ fl.take n ∧ ((rows.getD n []).length : Int) = cols) ∧ H0 = A) (fun i => fl.length - i) 0 subs ⟨by omega, fun k h => absurd h (by omega), rfl⟩ ?_
  rintro i _ ⟨hi, hall, rfl⟩
  refine go ?_
  refine Wp.br (fun h => ?_) (fun h => ?_)
  case refine_2 =>
    have h : ¬ (i : Int) < (fl.length : Int) := h
    have : i = fl.length := by omega
    subst this
    refine go ?_
    refine ret1 ⟨?_, x0⟩
    rw [dec_pos ⟨by omega, by omega, by omega, hall⟩]
  have h : (i : Int) < (fl.length : Int) := h
  have hb := hr0.each i (by omega)
  refine go ?_
  by_cases h4 : fl.getD i 0 < ((0 : Nat) : Int)
  · rw [dec_pos h4]
    refine go ?_
    exact ret1 (no H0 x0 fun k => by have := (k.2.2.2 i (by omega)).1; omega)
  rw [dec_neg h4]
  refine go ?_
  by_cases h5 : (N : Int) ≤ fl.getD i 0
  · rw [dec_pos h5]
    refine go ?_
    exact ret1 (no H0 x0 fun k => by have := (k.2.2.2 i (by omega)).2.1; omega)
  rw [dec_neg h5]
  refine go ?_
  refine Wp.br (fun h6 => ?_) (fun h6 => ?_) <;> refine go ?_
  · exact ret1 (no H0 x0 fun k => h6 (k.2.2.2 i (by omega)).2.2.2)
  have h6 : ((rows.getD i []).length : Int) = cols := Classical.not_not.1 h6
  refine Wp.loop (ι := Nat) (fun j => [(1, IV cols), (2, s.val), (3, r.val), (4, .pointer (some ⟨H.size, 0, none⟩)), (9, I64 i), (10, I64 j)])
    (fun j A => j ≤ i ∧ (∀ n, n < j → fl.getD n 0 ≠ fl.getD i 0) ∧ H0 = A) (fun j => i - j) 0 subs ⟨by omega, fun k h => absurd h (by omega), rfl⟩ ?_
  rintro j _ ⟨hj, hne, rfl⟩
  refine go ?_
  refine Wp.br (fun h7 => ?_) (fun h7 => ?_)
  case refine_2 =>
    have h7 : ¬ (j : Int) < (i : Int) := h7
    have : j = i := by omega
    subst this
    refine go ?_
    refine roundQ_n (j + 1) subs ⟨by omega, fun k hk => ?_, rfl⟩ (by omega)
    by_cases e : k = j
    · subst e
      refine ⟨by omega, by omega, fun hm => ?_, h6⟩
      obtain ⟨n, hn, e⟩ := (getD_take_mem (by omega)).1 hm
      exact hne n hn e
    · exact hall k (by omega)
  have h7 : (j : Int) < (i : Int) := h7
  refine go ?_
  refine Wp.br (fun h8 => ?_) (fun h8 => ?_) <;> refine go ?_
  · exact ret1 (no H0 x0 fun k => (k.2.2.2 i (by omega)).2.2.1 ((getD_take_mem (by omega)).2 ⟨j, by omega, h8⟩))
  · refine roundQ_n (j + 1) subs ⟨by omega, fun k hk => ?_, rfl⟩ (by omega)
    by_cases e : k = j
    · subst e; exact h8
    · exact hne k (by omega)
end Go.Proofs.YtgmemfcfjlndoaaGreat
