/-
  The document's answers of layers 10 and 11, walked: points, columns, documents of polynomials.
-/
import Derived.Test.YtgmemfcfjlndoaaGreatVOpenK
import Derived.Test.YtgmemfcfjlndoaaGreatVcMem
import Derived.Test.YtgmemfcfjlndoaaGreatVRef2
set_option linter.unusedVariables false
set_option linter.unusedSimpArgs false
namespace Go.Proofs.YtgmemfcfjlndoaaGreat
open Go Go.Vc Go.Gf

theorem xs_ok (s : Sl) (hs : List Nat) (H : Heap) (hr : RowF I64 0 H s hs) (hl : hs.length ≤ 1000000) (hb : ∀ i, i < hs.length → hs.getD i 0 ≤ 1000) : CallsH Tryz.prog 60 [s.val] H (New H (ptsN hs)) := by
  refine CallsH.enter h60 Tryz.func60 rfl rfl rfl (by decide) fun u => go ?_
  refine Wp.loop (ι := Nat × Sl) (fun i => [(0, s.val), (3, i.2.val), (4, I64 i.1)]) (fun i A => i.1 ≤ hs.length ∧ OwnF B8 A H.size 5 i.2 (ptsN (hs.take i.1)) ∧ Ext H A) (fun i => hs.length - i.1) (0, Sl.nil) subs ⟨Nat.zero_le _, OwnR.nil _ _ _ _, Ext.refl _⟩ ?_
  rintro ⟨i, a⟩ A ⟨hi, hA, eA⟩
  have hi : i ≤ hs.length := hi
  have hA : OwnF B8 A H.size 5 a (ptsN (hs.take i)) := hA
  have hrA := hr.ext eA
  have hzA := eA.size
  have hpl : (ptsN (hs.take i)).length = i := by rw [ptsN_length, List.length_take]; omega
  show Wp _ _ _ [(0, s.val), (3, a.val), (4, I64 i)] _ _
  refine go ?_
  refine Wp.br (fun h => ?_) (fun h => ?_)
  · have h : (i : Int) < (hs.length : Int) := h
    have hbi := hb i (by omega)
    refine go ?_
    refine RegS.buildSlice fun A4 o4 y4 w4 => ?_
    have m4 : Mine A4 A.size (Sl.fresh A.size 1) [UInt8.ofNat (hs.getD i 0 + 1)] := OwnR.mine (e := 5) o4
    have z4 := y4.size
    refine go ?_
    refine RegS.append (f := B8) (hA.ext y4) m4.bytes (fun _ => rfl) (by omega) ?_ ?_ ?_
    · simp only [List.length_singleton]; omega
    · simp only [List.length_singleton]; omega
    intro a' A5 hA' ca ba
    refine go ?_
    refine roundQ_n (i + 1, a') subs ⟨by simp only; omega, ?_, (eA.trans y4).then ca fun x hx => (hA.blk_ge hx).1⟩ (by simp only; omega)
    show OwnF B8 _ _ _ _ (ptsN (hs.take (i + 1)))
    rw [ptsN_take (by omega)]; exact hA'
  · have h : ¬ (i : Int) < (hs.length : Int) := h
    have : i = hs.length := by omega
    subst this
    rw [List.take_length] at hA
    refine go ?_
    exact ret1 ⟨a, rfl, OwnR.mine hA, eA⟩
theorem rcolumn_ok (s : Sl) (ss : List Sl) (rows : List (List UInt8)) (c : Nat) (H : Heap) (hs : BRows H s ss rows) (hl : rows.length ≤ 1000000) (hc : ∀ k, k < rows.length → c < (rows.getD k []).length) : CallsH Tryz.prog 61 [s.val, I64 c] H (New H (colN rows c)) := by
  have hrow := hs.row
  have hlen := hs.len
  refine CallsH.enter h61 Tryz.func61 rfl rfl rfl (by decide) fun u => go ?_
  refine Wp.loop (ι := Nat × Sl) (fun i => [(0, s.val), (1, I64 c), (5, i.2.val), (6, I64 i.1)]) (fun i A => i.1 ≤ rows.length ∧ OwnF B8 A H.size 5 i.2 (colN (rows.take i.1) c) ∧ Ext H A) (fun i => rows.length - i.1) (0, Sl.nil) subs ⟨Nat.zero_le _, OwnR.nil _ _ _ _, Ext.refl _⟩ ?_
  rintro ⟨i, a⟩ A ⟨hi, hA, eA⟩
  have hi : i ≤ rows.length := hi
  have hA : OwnF B8 A H.size 5 a (colN (rows.take i) c) := hA
  have hsA := hs.ext eA
  have hrowA := hsA.row
  have hzA := eA.size
  have hpl : (colN (rows.take i) c).length = i := by rw [colN_length, List.length_take]; omega
  show Wp _ _ _ [(0, s.val), (1, I64 c), (5, a.val), (6, I64 i)] _ _
  refine go ?_
  refine Wp.br (fun h => ?_) (fun h => ?_)
  · have h : (i : Int) < (ss.length : Int) := h
    have hb := hsA.each i (by omega)
    have hci := hc i (by omega)
    refine go ?_
    refine RegS.buildSlice fun A4 o4 y4 w4 => ?_
    have m4 : Mine A4 A.size (Sl.fresh A.size 1) [(rows.getD i []).getD c 0] := OwnR.mine (e := 5) o4
    have z4 := y4.size
    refine go ?_
    refine RegS.append (f := B8) (hA.ext y4) m4.bytes (fun _ => rfl) (by omega) ?_ ?_ ?_
    · simp only [List.length_singleton]; omega
    · simp only [List.length_singleton]; omega
    intro a' A5 hA' ca ba
    refine go ?_
    refine roundQ_n (i + 1, a') subs ⟨by simp only; omega, ?_, (eA.trans y4).then ca fun x hx => (hA.blk_ge hx).1⟩ (by simp only; omega)
    show OwnF B8 _ _ _ _ (colN (rows.take (i + 1)) c)
    have e : rows.take (i + 1) = rows.take i ++ [rows.getD i []] := by
      rw [List.take_add_one, List.getElem?_eq_getElem (by omega)]
      simp [List.getD_eq_getElem?_getD, show i < rows.length by omega]
    rw [e, colN, List.map_append]; exact hA'
  · have h : ¬ (i : Int) < (ss.length : Int) := h
    have : i = rows.length := by omega
    subst this
    rw [List.take_length] at hA
    refine go ?_
    exact ret1 ⟨a, rfl, OwnR.mine hA, eA⟩
theorem rcolumns_ok (size k : Nat) (H : Heap) (hk : 1 ≤ k) (hb : size ≤ 1152921504606846976) (hkb : k ≤ 1152921504606846976) : CallsH Tryz.prog 14 [I64 size, I64 k] H fun v H' => v = I64 (columns size k) ∧ H = H' := by
  refine CallsH.enter h14 Tryz.func14 rfl rfl rfl (by decide) fun u => go ?_
  exact ret1 ⟨rfl, rfl⟩
/-! ### Documents and shares of polynomials -/
theorem take_snoc {β : Type} (d : β) {l : List β} {i : Nat} (hi : i < l.length) : l.take (i + 1) = l.take i ++ [l.getD i d] := by
  rw [List.take_add_one, List.getElem?_eq_getElem hi]
  simp [List.getD_eq_getElem?_getD, hi]
def flatV (N K : Nat) (qs : List (List UInt8)) (c : Nat) : List UInt8 := (qs.take c).flatMap fun q => vals q (secP N K)
theorem flatV_succ {N K : Nat} {qs : List (List UInt8)} {c : Nat} (hc : c < qs.length) : flatV N K qs (c + 1) = flatV N K qs c ++ vals (qs.getD c []) (secP N K) := by
  unfold flatV; rw [take_snoc [] hc, List.flatMap_append]; simp
theorem take_more {x y : List UInt8} {size : Nat} (h : size ≤ x.length) : (x ++ y).take size = x.take size := by
  rw [List.take_append_of_le_length h]
theorem secret_ok (N T K E R size : Nat) (s : Sl) (ss : List Sl) (qs : List (List UInt8)) (H : Heap) (hs : BRows H s ss qs) (hl : qs.length ≤ 1000) (hN : N ≤ 255) (hK : K ≤ 255) (hsz : size ≤ 1000) (hq : ∀ k, k < qs.length → (qs.getD k []).length ≤ 1000) :
    CallsH Tryz.prog 17 [pmV N T K E R, I64 size, s.val] H (New H (docL N K size qs)) := by
  have hrow := hs.row
  have hlen := hs.len
  refine CallsH.enter h17 Tryz.func17 rfl rfl rfl (by decide) fun u => go ?_
  refine RegS.boxA fun H0 x0 z0 b0 => ?_
  have hs0 := hs.ext x0
  refine go ?_
  refine Wp.loop (ι := Nat × Sl) (fun i => [(1, I64 size), (2, s.val), (3, .pointer (some ⟨H.size, 0, none⟩)), (7, i.2.val), (8, I64 i.1)]) (fun i A => i.1 ≤ qs.length ∧ OwnF B8 A H0.size 5 i.2 ((flatV N K qs i.1).take size) ∧ Ext H0 A) (fun i => qs.length - i.1) (0, Sl.nil) subs ⟨Nat.zero_le _, (by rw [show (flatV N K qs 0).take size = [] by simp [flatV]]; exact OwnR.nil _ _ _ _), Ext.refl _⟩ ?_
  rintro ⟨c, a⟩ A ⟨hc, hA, eA⟩
  have hc : c ≤ qs.length := hc
  have hA : OwnF B8 A H0.size 5 a ((flatV N K qs c).take size) := hA
  have hsA := hs0.ext eA
  have hrowA := hsA.row
  show Wp _ _ _ [(1, I64 size), (2, s.val), (3, .pointer (some ⟨H.size, 0, none⟩)), (7, a.val), (8, I64 c)] _ _
  refine go ?_
  refine Wp.br (fun h => ?_) (fun h => ?_)
  case refine_2 =>
    have h : ¬ (c : Int) < (ss.length : Int) := h
    have : c = qs.length := by omega
    subst this
    refine go ?_
    refine ret1 ⟨a, rfl, ?_, x0.trans eA⟩
    have : flatV N K qs qs.length = qs.flatMap fun q => vals q (secP N K) := by unfold flatV; rw [List.take_length]
    rw [this] at hA
    exact (OwnR.mine hA).low (by omega)
  have h : (c : Int) < (ss.length : Int) := h
  have hvl : (vals (qs.getD c []) (secP N K)).length = K := by rw [vals_length, secP_length]
  have hql := hq c (by omega)
  refine go ?_
  refine Wp.loop (ι := Nat × Sl) (fun i => [(1, I64 size), (2, s.val), (3, .pointer (some ⟨H.size, 0, none⟩)), (7, i.2.val), (8, I64 c), (9, I64 i.1)]) (fun i A => i.1 ≤ K ∧ OwnF B8 A H0.size 5 i.2 ((flatV N K qs c ++ (vals (qs.getD c []) (secP N K)).take i.1).take size) ∧ Ext H0 A) (fun i => K - i.1) (0, a) subs ⟨Nat.zero_le _, by simpa using hA, eA⟩ ?_
  rintro ⟨i, a⟩ A ⟨hi, hA, eA⟩
  have hi : i ≤ K := hi
  have hA : OwnF B8 A H0.size 5 a ((flatV N K qs c ++ (vals (qs.getD c []) (secP N K)).take i).take size) := hA
  have hsA := hs0.ext eA
  have hrowA := hsA.row
  have bA := b0.ext eA
  have zA := eA.size
  have rA := OwnR.rowF (f := B8) (dd := 0) hA
  have hAl : ((flatV N K qs c ++ (vals (qs.getD c []) (secP N K)).take i).take size).length = min size ((flatV N K qs c).length + i) := by
    simp only [List.length_take, List.length_append, hvl]; omega
  have hdone : (i = K ∨ size ≤ (flatV N K qs c).length + i) → (flatV N K qs c ++ (vals (qs.getD c []) (secP N K)).take i).take size = (flatV N K qs (c + 1)).take size := by
    intro h'
    rw [flatV_succ (by omega)]
    rcases h' with rfl | h'
    · congr 2; rw [List.take_of_length_le (by omega)]
    · conv => rhs; rw [← List.take_append_drop i (vals (qs.getD c []) (secP N K)), ← List.append_assoc]
      exact (take_more (by simp only [List.length_append, List.length_take, hvl]; omega)).symm
  show Wp _ _ _ [(1, I64 size), (2, s.val), (3, .pointer (some ⟨H.size, 0, none⟩)), (7, a.val), (8, I64 c), (9, I64 i)] _ _
  refine go ?_
  refine RegS.sp (fun h1 => ?_) (fun h1 => ?_)
  case refine_2 =>
    refine go ?_
    refine roundQ_n (c + 1, a) subs ⟨by simp only; omega, ?_, eA⟩ (by simp only; omega)
    show OwnF B8 _ _ _ _ ((flatV N K qs (c + 1)).take size)
    rw [← hdone (.inl (by omega))]; exact hA
  refine go ?_
  refine Wp.br (fun h2 => ?_) (fun h2 => ?_)
  case refine_2 =>
    refine go ?_
    refine roundQ_n (c + 1, a) subs ⟨by simp only; omega, ?_, eA⟩ (by simp only; omega)
    show OwnF B8 _ _ _ _ ((flatV N K qs (c + 1)).take size)
    rw [← hdone (.inr (by omega))]; exact hA
  have hb := hsA.each c (by omega)
  refine go ?_
  refine RegP.call (reval_ok _ (qs.getD c []) (UInt8.ofNat (N + 1 + i)) A hb (by omega)) ?_
  rintro _ _ ⟨rfl, rfl⟩
  refine ⟨.inl (Ext.refl _), ?_⟩
  refine go ?_
  refine RegP.buildSlice fun A4 o4 y4 w4 => ?_
  have m4 : Mine A4 A.size (Sl.fresh A.size 1) [hor (UInt8.ofNat (N + 1 + i)) (qs.getD c [])] := OwnR.mine (e := 5) o4
  have z4 := y4.size
  refine go ?_
  refine RegP.append (f := B8) (hA.ext y4) m4.bytes (fun _ => rfl) (by omega) ?_ ?_ ?_
  · simp only [List.length_singleton]; omega
  · simp only [List.length_singleton]; omega
  intro a' A5 hA' ca ba
  refine ⟨.inr Proms.nil, ?_⟩
  refine go ?_
  refine roundQ_n (i + 1, a') subs ⟨by simp only; omega, ?_, (eA.trans y4).then ca fun x hx => (hA.blk_ge hx).1⟩ (by simp only; omega)
  show OwnF B8 _ _ _ _ ((flatV N K qs c ++ (vals (qs.getD c []) (secP N K)).take (i + 1)).take size)
  have e1 : (flatV N K qs c ++ (vals (qs.getD c []) (secP N K)).take i).take size = flatV N K qs c ++ (vals (qs.getD c []) (secP N K)).take i := by
    rw [List.take_of_length_le]
    simp only [List.length_append, List.length_take, hvl]; omega
  have e2 : (flatV N K qs c ++ (vals (qs.getD c []) (secP N K)).take (i + 1)).take size = flatV N K qs c ++ ((vals (qs.getD c []) (secP N K)).take i ++ [hor (UInt8.ofNat (N + 1 + i)) (qs.getD c [])]) := by
    rw [take_snoc 0 (by omega), getD_vals (by rw [secP_length]; omega), secP_getD (by omega), show N + i + 1 = N + 1 + i by omega, List.take_of_length_le]
    simp only [List.length_append, List.length_take, hvl, List.length_singleton]; omega
  rw [e2, ← List.append_assoc, ← e1]
  exact hA'
end Go.Proofs.YtgmemfcfjlndoaaGreat
