/-
  The walks of packages open and stripe, and the points of package deal.
-/
import Derived.Test.YtccgbgjhjpllcaaVOpenP
import Derived.Test.YtccgbgjhjpllcaaVcAgg
import Derived.Test.YtccgbgjhjpllcaaVMat
import Derived.Test.YtccgbgjhjpllcaaVSort
set_option linter.unusedVariables false
set_option linter.unusedSimpArgs false
namespace Go.Proofs.Ytccgbgjhjpllcaa
open Go Go.Vc Go.Gf

abbrev pmL (N T K E R : Nat) : List Value := [I64 N, I64 T, I64 K, I64 E, I64 R]
abbrev pmV (N T K E R : Nat) : Value := .agg #[I64 N, I64 T, I64 K, I64 E, I64 R]

theorem columns_ok (size k : Nat) (H : Heap) (hk : 1 ≤ k) (hb : size ≤ 4611686018427387904) (hkb : k ≤ 4611686018427387904) : CallsH Try.prog 39 [I64 size, I64 k] H fun v H' => v = I64 (columns size k) ∧ H = H' := by
  refine CallsH.enter h39 Try.func39 rfl rfl rfl (by decide) fun u => go ?_
  have hd := Nat.div_add_mod size k
  have hm := Nat.mod_lt size (show 0 < k by omega)
  have hle : size / k ≤ size := Nat.div_le_self _ _
  refine Wp.br (fun h2 => ?_) (fun h2 => ?_) <;> refine go ?_
  · refine ret1 ⟨?_, rfl⟩
    have : columns size k = size / k + 1 := by
      unfold columns
      rw [show size + k - 1 = (size % k - 1) + k * (size / k + 1) by rw [Nat.mul_add]; omega, Nat.add_mul_div_left _ _ (by omega), Nat.div_eq_of_lt (by omega)]
      omega
    rw [this]
  · refine ret1 ⟨?_, rfl⟩
    have : columns size k = size / k := by
      unfold columns
      rw [show size + k - 1 = (k - 1) + k * (size / k) by omega, Nat.add_mul_div_left _ _ (by omega), Nat.div_eq_of_lt (by omega)]
      omega
    rw [this]
theorem point_ok (h : Nat) (H : Heap) : CallsH Try.prog 86 [I64 h] H fun v H' => v = B8 (UInt8.ofNat (h + 1)) ∧ H = H' := by
  refine CallsH.enter h86 Try.func86 rfl rfl rfl (by decide) fun u => go ?_
  refine ret1 ⟨?_, rfl⟩
  congr 1
  simp [UInt8.ofNat_add]
theorem ptsN_take {hs : List Nat} {k : Nat} (hk : k < hs.length) : ptsN (hs.take (k + 1)) = ptsN (hs.take k) ++ [UInt8.ofNat (hs.getD k 0 + 1)] := by
  have e : hs.take (k + 1) = hs.take k ++ [hs.getD k 0] := by
    rw [List.take_add_one, List.getElem?_eq_getElem hk]
    simp [List.getD_eq_getElem?_getD, hk]
  rw [e, ptsN, List.map_append]
  rfl
theorem points_ok (N T K E R : Nat) (s : Sl) (hs : List Nat) (H : Heap) (hr : RowF I64 0 H s hs) (hl : hs.length ≤ 140737488355328) :
    CallsH Try.prog 54 [pmV N T K E R, s.val] H (New H (ptsN hs)) := by
  refine CallsH.enter h54 Try.func54 rfl rfl rfl (by decide) fun u => go ?_
  refine RegS.boxA fun H0 x0 z0 b0 => ?_
  have hr0 := hr.ext x0
  refine go ?_
  refine RegS.makeRoom (n := hs.length) ?_ ?_ fun H1 o1 e1 z1 => ?_
  · omega
  · omega
  refine go ?_
  have x1 := x0.trans e1
  refine Wp.loop (ι := Nat × Sl) (fun i => [(1, s.val), (5, i.2.val), (11, s.val), (12, I64 hs.length), (13, I64 i.1)]) (fun i A => i.1 ≤ hs.length ∧ OwnF B8 A H.size 5 i.2 (ptsN (hs.take i.1)) ∧ Ext H A) (fun i => hs.length - i.1) (0, Sl.room H0.size hs.length) subs ⟨Nat.zero_le _, o1.low (by omega), x1⟩ ?_
  rintro ⟨i, a⟩ A ⟨hi, hA, eA⟩
  have hi : i ≤ hs.length := hi
  have hrA := hr.ext eA
  have hzA := eA.size
  have hpl : (ptsN (hs.take i)).length = i := by rw [ptsN_length, List.length_take]; omega
  show Wp _ _ _ [(1, s.val), (5, a.val), (11, s.val), (12, I64 hs.length), (13, I64 i)] _ _
  refine go ?_
  refine Wp.br (fun h => ?_) (fun h => ?_)
  · have h : (i : Int) < (hs.length : Int) := h
    refine go ?_
    refine RegS.call (point_ok _ A) ?_
    rintro _ _ ⟨rfl, rfl⟩
    refine go ?_
    refine RegS.buildSlice fun A4 o4 y4 w4 => ?_
    have m4 : Mine A4 A.size (Sl.fresh A.size 1) [UInt8.ofNat (hs.getD i 0 + 1)] := OwnR.mine (e := 5) o4
    have z4 := y4.size
    refine go ?_
    refine RegS.append (f := B8) (hA.ext y4) m4.bytes (fun _ => rfl) (by omega) ?_ ?_ ?_
    · simp only [List.length_singleton]; omega
    · simp only [List.length_singleton]; omega
    intro a' A5 hA' ca ba
    refine go ?_
    refine roundQ_n (i + 1, a') ⟨rfl, rfl, rfl, rfl, rfl, trivial⟩ ⟨by simp only; omega, ?_, (eA.trans y4).then ca fun x hx => (hA.blk_ge hx).1⟩ (by simp only; omega)
    show OwnF B8 _ _ _ _ (ptsN (hs.take (i + 1)))
    rw [ptsN_take (by omega)]; exact hA'
  · have h : ¬ (i : Int) < (hs.length : Int) := h
    have : i = hs.length := by omega
    subst this
    rw [List.take_length] at hA
    refine go ?_
    exact ret1 ⟨a, rfl, OwnR.mine hA, eA⟩
theorem secrets_ok (N T K E R : Nat) (H : Heap) (hK : K ≤ 255) (hN : N ≤ 255) : CallsH Try.prog 66 [pmV N T K E R] H (New H (secP N K)) := by
  refine CallsH.enter h66 Try.func66 rfl rfl rfl (by decide) fun u => go ?_
  refine RegS.boxA fun H0 x0 z0 b0 => ?_
  refine go ?_
  refine RegS.makeRoom (n := K) ?_ ?_ fun H1 o1 e1 z1 => ?_
  · omega
  · omega
  have b1 := b0.ext e1
  refine go ?_
  have x1 := x0.trans e1
  refine Wp.loop (ι := Nat × Sl) (fun i => [(1, .pointer (some ⟨H.size, 0, none⟩)), (3, i.2.val), (9, I64 K), (10, I64 i.1)]) (fun i A => i.1 ≤ K ∧ OwnF B8 A H0.size 5 i.2 (secP N i.1) ∧ Ext H0 A) (fun i => K - i.1) (0, Sl.room H0.size K) subs ⟨Nat.zero_le _, o1, e1⟩ ?_
  rintro ⟨i, a⟩ A ⟨hi, hA, eA⟩
  have hi : i ≤ K := hi
  have hzA := eA.size
  have bA := b0.ext eA
  have hpl := secP_length N i
  show Wp _ _ _ [(1, .pointer (some ⟨H.size, 0, none⟩)), (3, a.val), (9, I64 K), (10, I64 i)] _ _
  refine go ?_
  refine Wp.br (fun h => ?_) (fun h => ?_)
  · have h : (i : Int) < (K : Int) := h
    refine go ?_
    refine RegS.call (point_ok (N + i) A) ?_
    rintro _ _ ⟨rfl, rfl⟩
    refine go ?_
    refine RegS.buildSlice fun A4 o4 y4 w4 => ?_
    have m4 : Mine A4 A.size (Sl.fresh A.size 1) [UInt8.ofNat (N + i + 1)] := OwnR.mine (e := 5) o4
    have z4 := y4.size
    refine go ?_
    refine RegS.append (f := B8) (hA.ext y4) m4.bytes (fun _ => rfl) (by omega) ?_ ?_ ?_
    · simp only [List.length_singleton]; omega
    · simp only [List.length_singleton]; omega
    intro a' A5 hA' ca ba
    refine go ?_
    refine roundQ_n (i + 1, a') ⟨rfl, rfl, rfl, rfl, trivial⟩ ⟨by simp only; omega, ?_, (eA.trans y4).then ca fun x hx => (hA.blk_ge hx).1⟩ (by simp only; omega)
    show OwnF B8 _ _ _ _ (secP N (i + 1))
    have : secP N (i + 1) = secP N i ++ [UInt8.ofNat (N + i + 1)] := by
      unfold secP ptsN
      rw [List.range_succ, List.map_append, List.map_append]
      rfl
    rw [this]; exact hA'
  · have h : ¬ (i : Int) < (K : Int) := h
    have : i = K := by omega
    subst this
    refine go ?_
    exact ret1 ⟨a, rfl, (OwnR.mine hA).low (by omega), x0.trans eA⟩
/-- A byte of each share. -/
theorem column_ok (s : Sl) (ss : List Sl) (rows : List (List UInt8)) (c : Nat) (H : Heap) (hs : BRows H s ss rows) (hl : rows.length ≤ 140737488355328) (hc : ∀ k, k < rows.length → c < (rows.getD k []).length) :
    CallsH Try.prog 56 [s.val, I64 c] H (New H (colN rows c)) := by
  have hrow := hs.row
  have hlen := hs.len
  refine CallsH.enter h56 Try.func56 rfl rfl rfl (by decide) fun u => go ?_
  refine RegS.makeRoom (n := ss.length) ?_ ?_ fun H1 o1 e1 z1 => ?_
  · omega
  · omega
  have hs1 := hs.ext e1
  have hrow1 := hs1.row
  refine go ?_
  refine Wp.loop (ι := Nat × Sl) (fun i => [(1, I64 c), (5, i.2.val), (11, s.val), (12, I64 ss.length), (13, I64 i.1)]) (fun i A => i.1 ≤ rows.length ∧ OwnF B8 A H.size 5 i.2 (colN (rows.take i.1) c) ∧ Ext H A) (fun i => rows.length - i.1) (0, Sl.room H.size ss.length) subs ⟨Nat.zero_le _, o1, e1⟩ ?_
  rintro ⟨i, a⟩ A ⟨hi, hA, eA⟩
  have hi : i ≤ rows.length := hi
  have hsA := hs.ext eA
  have hrowA := hsA.row
  have hzA := eA.size
  have hpl : (colN (rows.take i) c).length = i := by rw [colN_length, List.length_take]; omega
  show Wp _ _ _ [(1, I64 c), (5, a.val), (11, s.val), (12, I64 ss.length), (13, I64 i)] _ _
  refine go ?_
  refine Wp.br (fun h => ?_) (fun h => ?_)
  · have h : (i : Int) < (ss.length : Int) := h
    have hb := hsA.each i (by omega)
    have hci := hc i (by omega)
    refine go ?_
    refine RegS.buildSlice fun A4 o4 y4 w4 => ?_
    have m4 : Mine A4 A.size (Sl.fresh A.size 1) [(rows.getD i []).getD c 0] := OwnR.mine (e := 5) o4
    have z4 := y4.size
    refine go ?_
    refine RegS.append (f := B8) (hA.ext y4) m4.bytes (fun _ => rfl) (by omega) ?_ ?_ ?_
    · simp only [List.length_singleton]; omega
    · simp only [List.length_singleton]; omega
    intro a' A5 hA' ca ba
    refine go ?_
    refine roundQ_n (i + 1, a') ⟨rfl, rfl, rfl, rfl, rfl, trivial⟩ ⟨by simp only; omega, ?_, (eA.trans y4).then ca fun x hx => (hA.blk_ge hx).1⟩ (by simp only; omega)
    show OwnF B8 _ _ _ _ (colN (rows.take (i + 1)) c)
    have e : rows.take (i + 1) = rows.take i ++ [rows.getD i []] := by
      rw [List.take_add_one, List.getElem?_eq_getElem (by omega)]
      simp [List.getD_eq_getElem?_getD, show i < rows.length by omega]
    rw [e, colN, List.map_append]; exact hA'
  · have h : ¬ (i : Int) < (ss.length : Int) := h
    have : i = rows.length := by omega
    subst this
    rw [List.take_length] at hA
    refine go ?_
    exact ret1 ⟨a, rfl, OwnR.mine hA, eA⟩
end Go.Proofs.Ytccgbgjhjpllcaa
