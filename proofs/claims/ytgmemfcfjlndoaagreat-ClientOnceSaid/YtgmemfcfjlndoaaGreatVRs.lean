/-
  The walks of package rs.
-/
import Derived.Test.YtgmemfcfjlndoaaGreatVPoly
import Derived.Test.YtgmemfcfjlndoaaGreatVPlain
import Derived.Test.YtgmemfcfjlndoaaGreatVcMem
set_option linter.unusedVariables false
set_option linter.unusedSimpArgs false
namespace Go.Proofs.YtgmemfcfjlndoaaGreat
open Go Go.Vc Go.Gf

/-- Values at some points. -/
def vals (p xs : List UInt8) : List UInt8 := xs.map fun x => hor x p
theorem vals_length (p xs : List UInt8) : (vals p xs).length = xs.length := by simp [vals]
theorem getD_vals {p xs : List UInt8} {k : Nat} (hk : k < xs.length) : (vals p xs).getD k 0 = hor (xs.getD k 0) p := by
  simp [vals, List.getD_eq_getElem?_getD, List.getElem?_eq_getElem hk]
theorem vals_take {p xs : List UInt8} {k : Nat} (hk : k < xs.length) : vals p (xs.take (k + 1)) = vals p (xs.take k) ++ [hor (xs.getD k 0) p] := by
  have e : xs.take (k + 1) = xs.take k ++ [xs.getD k 0] := by
    rw [List.take_add_one, List.getElem?_eq_getElem hk]
    simp [List.getD_eq_getElem?_getD, List.getElem?_eq_getElem hk]
  rw [e, vals, vals, List.map_append]
  rfl

theorem encode_ok (fb : Nat) (s r : Sl) (p xs : List UInt8) (H : Heap) (hF : IsField H fb) (hs : Bytes H s p) (hr : Bytes H r xs) (hl : p.length ≤ 9223372036854775807) (hm : xs.length ≤ 140737488355328) : CallsH Tryz.prog 119 [fieldV fb, s.val, r.val] H (New H (vals p xs)) := by
  refine CallsH.enter h119 Tryz.func119 rfl rfl rfl (by decide) fun u => go ?_
  refine RegS.makeRoom (n := xs.length) ?_ ?_ fun H1 o1 e1 z1 => ?_
  · omega
  · omega
  refine go ?_
  refine Wp.loop (ι := Nat × Sl) (fun i => [(0, fieldV fb), (1, s.val), (7, i.2.val), (13, r.val), (14, I64 xs.length), (15, I64 i.1)]) (fun i A => i.1 ≤ xs.length ∧ OwnF B8 A H.size 5 i.2 (vals p (xs.take i.1)) ∧ Ext H A) (fun i => xs.length - i.1) (0, Sl.room H.size xs.length) ⟨rfl, rfl, rfl, rfl, rfl, rfl, trivial⟩ ⟨Nat.zero_le _, o1, e1⟩ ?_
  rintro ⟨k, t⟩ A ⟨hk, ho, eA⟩
  have hk : k ≤ xs.length := hk
  have ho : OwnF B8 A H.size 5 t (vals p (xs.take k)) := ho
  have hrA := hr.ext eA
  refine go ?_
  refine Wp.br (fun h => ?_) (fun h => ?_)
  · have h : (k : Int) < (xs.length : Int) := h
    refine go ?_
    refine RegS.call (eval_ok fb s p (xs.getD k 0) A (hF.ext eA) (hs.ext eA) hl) ?_
    rintro _ A1 ⟨rfl, x1⟩
    refine go ?_
    refine RegS.buildSlice fun A2 o2 x2 z2 => ?_
    have m2 : Mine A2 A1.size (Sl.fresh A1.size 1) [hor (xs.getD k 0) p] := OwnR.mine (e := 5) o2
    refine go ?_
    have hz := (eA.trans (x1.trans x2)).size
    refine RegS.append (f := B8) (ho.ext (x1.trans x2)) m2.bytes (fun _ => rfl) hz ?_ ?_ ?_
    · simp [vals_length]; omega
    · simp [vals_length]; omega
    intro t' A3 o3 c3 b3
    refine go ?_
    refine roundQ_n (k + 1, t') ⟨rfl, rfl, rfl, rfl, rfl, rfl, trivial⟩ ⟨by simp only; omega, ?_, (eA.trans (x1.trans x2)).then c3 fun b hb => (ho.blk_ge hb).1⟩ (by simp only; omega)
    rw [vals_take (by omega)]
    exact o3
  · have h : ¬ (k : Int) < (xs.length : Int) := h
    refine go ?_
    have : k = xs.length := by omega
    subst this
    rw [List.take_length] at ho
    exact ret1 ⟨t, rfl, OwnR.mine (e := 5) ho, eA⟩

/-- The polynomial of all values, if there is one. -/
def decOk (xs ys : List UInt8) (d : Int) : Prop := xs.length = ys.length ∧ d < (xs.length : Int) ∧ unlike xs ∧ (deg1 (rthrN xs ys xs.length) : Int) - 1 ≤ d
def DecR (H : Heap) (xs ys : List UInt8) (d : Int) (v : Value) (H' : Heap) : Prop :=
  Ext H H' ∧ ((0 ≤ d ∧ decOk xs ys d ∧ ∃ s : Sl, v = .tuple #[s.val, .bool true] ∧ Mine H' H.size s (rthrN xs ys xs.length)) ∨ (¬ (0 ≤ d ∧ decOk xs ys d) ∧ v = .tuple #[Sl.nil.val, .bool false]))

end Go.Proofs.YtgmemfcfjlndoaaGreat
