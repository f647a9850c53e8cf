/-
  The walks of package open, on: are shares enough? what is found.
-/
import Derived.Test.YtccgbgjhjpllcaaVOpen
set_option linter.unusedVariables false
set_option linter.unusedSimpArgs false
namespace Go.Proofs.Ytccgbgjhjpllcaa
open Go Go.Vc Go.Gf

theorem indexI_ok (s : Sl) (l : List Int) (x : Int) (H : Heap) (hs : RowF IV 0 H s l) (hl : l.length ≤ 9223372036854775807) : CallsH Try.prog 110 [s.val, IV x] H fun v H' => (∃ z : Int, v = IV z ∧ (0 ≤ z ↔ x ∈ l)) ∧ H = H' := by
  refine CallsH.enter h110 Try.func110 rfl rfl rfl (by decide) fun u => go ?_
  refine Wp.loop (ι := Nat) (fun i => [(0, s.val), (1, IV x), (7, I64 l.length), (8, I64 i)]) (fun i A => i ≤ l.length ∧ (∀ k, k < i → l.getD k 0 ≠ x) ∧ H = A) (fun i => l.length - i) 0 subs ⟨by omega, fun k h => absurd h (by omega), rfl⟩ ?_
  rintro i _ ⟨hi, hall, rfl⟩
  refine go ?_
  refine Wp.br (fun h => ?_) (fun h => ?_)
  · have h : (i : Int) < (l.length : Int) := h
    refine go ?_
    refine Wp.br (fun h' => ?_) (fun h' => ?_) <;> refine go ?_
    · have h' : x = l.getD i 0 := h'
      refine ret1 ⟨⟨(i : Int), rfl, ?_⟩, rfl⟩
      exact ⟨fun _ => mem_getD.2 ⟨i, by omega, h'.symm⟩, fun _ => by omega⟩
    · refine roundQ_n (i + 1) ⟨rfl, rfl, rfl, rfl, trivial⟩ ⟨by omega, fun k hk => ?_, rfl⟩ (by omega)
      by_cases e : k = i
      · subst e; exact fun e => h' e.symm
      · exact hall k (by omega)
  · have h : ¬ (i : Int) < (l.length : Int) := h
    refine go ?_
    refine ret1 ⟨⟨-1, rfl, ?_⟩, rfl⟩
    refine ⟨fun k => absurd k (by omega), fun k => ?_⟩
    obtain ⟨j, hj, e⟩ := (mem_getD (d := 0)).1 k
    exact absurd e (hall j (by omega))
theorem containsI_ok (s : Sl) (l : List Int) (x : Int) (H : Heap) (hs : RowF IV 0 H s l) (hl : l.length ≤ 9223372036854775807) : CallsH Try.prog 85 [s.val, IV x] H fun v H' => v = .bool (dec (x ∈ l)) ∧ H = H' := by
  refine CallsH.enter h85 Try.func85 rfl rfl rfl (by decide) fun u => go ?_
  refine RegS.call (indexI_ok s l x H hs hl) ?_
  rintro _ _ ⟨⟨z, rfl, hz⟩, rfl⟩
  refine go ?_
  refine ret1 ⟨?_, rfl⟩
  exact congrArg _ (dec_congr hz)
def enoughP (N m : Nat) (cols : Int) (fl : List Int) (rows : List (List UInt8)) : Prop :=
  fl.length = rows.length ∧ m ≤ fl.length ∧ 0 ≤ cols ∧ ∀ n, n < fl.length → 0 ≤ fl.getD n 0 ∧ fl.getD n 0 < N ∧ fl.getD n 0 ∉ fl.take n ∧ ((rows.getD n []).length : Int) = cols
theorem enough_ok (N T K E R : Nat) (cols : Int) (s r : Sl) (ss : List Sl) (fl : List Int) (rows : List (List UInt8)) (H : Heap) (hs : RowF IV 0 H s fl) (hr : BRows H r ss rows) (hl : fl.length ≤ 9223372036854775807) (hl2 : rows.length ≤ 9223372036854775807) (hT : T ≤ 255) (hK : K ≤ 255) (hE : E ≤ 255) :
    CallsH Try.prog 53 [pmV N T K E R, IV cols, s.val, r.val] H fun v H' => v = .bool (dec (enoughP N (T + K + E) cols fl rows)) ∧ Ext H H' := by
  have hrow := hr.row
  have hlen := hr.len
  refine CallsH.enter h53 Try.func53 rfl rfl rfl (by decide) fun u => go ?_
  refine RegS.boxA fun H0 x0 z0 b0 => ?_
  have hs0 := hs.ext x0
  have hr0 := hr.ext x0
  have hrow0 := hr0.row
  refine go ?_
  have no : ∀ A, Ext H A → ¬ enoughP N (T + K + E) cols fl rows → (Value.bool false = Value.bool (dec (enoughP N (T + K + E) cols fl rows)) ∧ Ext H A) := fun A x h => ⟨by rw [dec_neg h], x⟩
  refine RegS.sp (fun h1 => ?_) (fun h1 => ?_) <;> refine go ?_
  · exact ret1 (no H0 x0 fun k => h1 (by have := k.1; omega))
  refine RegS.sp (fun h2 => ?_) (fun h2 => ?_) <;> refine go ?_
  · exact ret1 (no H0 x0 fun k => by have := k.2.1; omega)
  refine Wp.br (fun h3 => ?_) (fun h3 => ?_) <;> refine go ?_
  · exact ret1 (no H0 x0 fun k => by have := k.2.2.1; omega)
  refine Wp.loop (ι := Nat) (fun i => [(1, IV cols), (2, s.val), (3, r.val), (4, .pointer (some ⟨H.size, 0, none⟩)), (33, s.val), (34, I64 fl.length), (35, I64 i)])
    (fun i A => i ≤ fl.length ∧ (∀ n, n < i → 0 ≤ fl.getD n 0 ∧ fl.getD n 0 < N ∧ fl.getD n 0 ∉ fl.take n ∧ ((rows.getD n []).length : Int) = cols) ∧ Ext H0 A) (fun i => fl.length - i) 0 subs ⟨by omega, fun k h => absurd h (by omega), Ext.refl _⟩ ?_
  rintro i A ⟨hi, hall, eA⟩
  have hsA := hs0.ext eA
  have hrA := hr0.ext eA
  have hrowA := hrA.row
  have bA := b0.ext eA
  have xA := x0.trans eA
  have hsl : s.len = fl.length := hs.len
  refine go ?_
  refine Wp.br (fun h => ?_) (fun h => ?_)
  · have h : (i : Int) < (fl.length : Int) := h
    have hb := hrA.each i (by omega)
    refine go ?_
    refine RegS.sp (fun h4 => ?_) (fun h4 => ?_) <;> refine go ?_
    · exact ret1 (no A xA fun k => by have := (k.2.2.2 i (by omega)).1; omega)
    refine RegS.sp (fun h5 => ?_) (fun h5 => ?_) <;> refine go ?_
    · exact ret1 (no A xA fun k => by have := (k.2.2.2 i (by omega)).2.1; omega)
    refine RegS.cut 0 i s.cap (.inl ⟨rfl, rfl⟩) (.inr ⟨_, _, rfl, rfl⟩) (.inl ⟨rfl, rfl⟩) ⟨Nat.zero_le _, by have := s.le; omega, Nat.le_refl _⟩ ?_
    have hcut := hsA.cut (l := 0) (h := i) (m := s.cap) (by have := s.le; omega) (by omega)
    refine go ?_
    refine RegS.call (containsI_ok _ _ (fl.getD i 0) A hcut (by simp; omega)) ?_
    rintro _ _ ⟨rfl, rfl⟩
    rw [List.drop_zero]
    refine go ?_
    refine RegS.sp (fun h6 => ?_) (fun h6 => ?_) <;> refine go ?_
    · exact ret1 (no A xA fun k => (k.2.2.2 i (by omega)).2.2.1 h6)
    refine Wp.br (fun h7 => ?_) (fun h7 => ?_) <;> refine go ?_
    · exact ret1 (no A xA fun k => h7 (k.2.2.2 i (by omega)).2.2.2)
    refine roundQ_n (i + 1) ⟨rfl, rfl, rfl, rfl, rfl, rfl, rfl, trivial⟩ ⟨by omega, fun k hk => ?_, eA⟩ (by omega)
    by_cases e : k = i
    · subst e; exact ⟨by omega, by omega, h6, Classical.not_not.1 h7⟩
    · exact hall k (by omega)
  · have h : ¬ (i : Int) < (fl.length : Int) := h
    have : i = fl.length := by omega
    subst this
    refine go ?_
    refine ret1 ⟨?_, xA⟩
    rw [dec_pos ⟨by omega, by omega, by omega, hall⟩]
end Go.Proofs.Ytccgbgjhjpllcaa
