/-
  The walks of packages open and stripe, and the points of package deal.
-/
import Derived.Test.YtaikdcnifijcoaaGreatQ40
import Derived.Test.YtaikdcnifijcoaaGreatQ27
import Derived.Test.YtaikdcnifijcoaaGreatQ36
import Derived.Test.YtaikdcnifijcoaaGreatQ13
import Derived.Test.YtaikdcnifijcoaaGreatQ05
import Derived.Test.YtaikdcnifijcoaaGreatQ28
set_option linter.unusedVariables false
set_option linter.unusedSimpArgs false
namespace Go.Proofs.YtaikdcnifijcoaaGreat
open Go Go.Vc Go.Gf
/-! ### Lists -/
theorem ext_getD {β : Type} (d : β) {l m : List β} (hl : l.length = m.length) (h : ∀ k, k < l.length → l.getD k d = m.getD k d) : l = m := by
  refine List.ext_getElem hl fun i h1 h2 => ?_
  have := h i h1
  simpa [List.getD_eq_getElem?_getD, h1, h2] using this
theorem rising_eq : ∀ {l m : List Nat}, l.Pairwise (· < ·) → m.Pairwise (· < ·) → (∀ x, x ∈ l ↔ x ∈ m) → l = m
  | [], [], _, _, _ => rfl
  | [], b :: m, _, _, h => absurd ((h b).2 List.mem_cons_self) (by simp)
  | a :: l, [], _, _, h => absurd ((h a).1 List.mem_cons_self) (by simp)
  | a :: l, b :: m, hl, hm, h => by
    rw [List.pairwise_cons] at hl hm
    have e : a = b := by
      rcases List.mem_cons.1 ((h a).1 List.mem_cons_self) with e | e
      · exact e
      · rcases List.mem_cons.1 ((h b).2 List.mem_cons_self) with e' | e'
        · exact e'.symm
        · have := hl.1 b e'; have := hm.1 a e; omega
    subst e
    rw [rising_eq hl.2 hm.2 fun x => ?_]
    constructor
    · intro hx
      have := hl.1 x hx
      rcases List.mem_cons.1 ((h x).1 (List.mem_cons_of_mem _ hx)) with e | e
      · omega
      · exact e
    · intro hx
      have := hm.1 x hx
      rcases List.mem_cons.1 ((h x).2 (List.mem_cons_of_mem _ hx)) with e | e
      · omega
      · exact e
/-- Neighbours that are alike, once. -/
def once : List Nat → List Nat
  | [] => []
  | [a] => [a]
  | a :: b :: r => if a = b then once (b :: r) else a :: once (b :: r)
/-! ### Points -/
def ptsN (hs : List Nat) : List UInt8 := hs.map fun h => UInt8.ofNat (h + 1)
theorem ptsN_length (hs : List Nat) : (ptsN hs).length = hs.length := by simp [ptsN]
theorem ptsN_getD {hs : List Nat} {i : Nat} (hi : i < hs.length) : (ptsN hs).getD i 0 = UInt8.ofNat (hs.getD i 0 + 1) := by simp [ptsN, List.getD_eq_getElem?_getD, hi]
def colN (rows : List (List UInt8)) (c : Nat) : List UInt8 := rows.map fun s => s.getD c 0
theorem colN_length (rows : List (List UInt8)) (c : Nat) : (colN rows c).length = rows.length := by simp [colN]
theorem colN_getD {rows : List (List UInt8)} {c i : Nat} (hi : i < rows.length) : (colN rows c).getD i 0 = (rows.getD i []).getD c 0 := by simp [colN, List.getD_eq_getElem?_getD, hi]
/-- Holders, each once. -/
structure Few (N : Nat) (hs : List Nat) : Prop where
  lt : ∀ i, i < hs.length → hs.getD i 0 < N
  ne : ∀ i, i < hs.length → ∀ j, j < i → hs.getD j 0 ≠ hs.getD i 0
theorem few_iff {N : Nat} {hs : List Nat} : Few N hs ↔ (∀ h ∈ hs, h < N) ∧ hs.Nodup := by
  constructor
  · rintro ⟨h1, h2⟩
    refine ⟨fun h hh => ?_, ?_⟩
    · obtain ⟨i, hi, rfl⟩ := (mem_getD (d := 0)).1 hh; exact h1 i hi
    · rw [List.Nodup, List.pairwise_iff_getElem]
      intro i j hi hj hij e
      exact h2 j hj i hij (by simpa [List.getD_eq_getElem?_getD, hi, hj] using e)
  · rintro ⟨h1, h2⟩
    refine ⟨fun i hi => h1 _ (mem_getD.2 ⟨i, hi, rfl⟩), fun i hi j hj e => ?_⟩
    rw [List.Nodup, List.pairwise_iff_getElem] at h2
    have hj' : j < hs.length := by omega
    exact h2 j i hj' hi hj (by simpa [List.getD_eq_getElem?_getD, hi, hj'] using e)
/-! ### What is found -/
structure Found (d e cols : Nat) (hs : List Nat) (rows qs : List (List UInt8)) : Prop where
  len : qs.length = cols
  good : ∀ c, c < cols → bwGood (ptsN hs) (colN rows c) (d : Nat) (e : Nat) (qs.getD c [])
theorem Found.one {d e cols : Nat} {hs : List Nat} {rows qs qs' : List (List UInt8)} (h : Found d e cols hs rows qs) (h' : Found d e cols hs rows qs') : qs = qs' :=
  ext_getD [] (h.len.trans h'.len.symm) fun k hk => bwGood_one (h.good k (h.len ▸ hk)) (h'.good k (h.len ▸ hk))
def badAt (q : List UInt8) (c : Nat) (p : Nat × List UInt8) : Bool := decide (hor (UInt8.ofNat (p.1 + 1)) q ≠ p.2.getD c 0)
def Off (hs : List Nat) (rows qs : List (List UInt8)) (h : Nat) : Prop := ∃ c, c < qs.length ∧ ∃ p ∈ hs.zip rows, p.1 = h ∧ badAt (qs.getD c []) c p = true
noncomputable def offs (N : Nat) (hs : List Nat) (rows qs : List (List UInt8)) : List Nat := (List.range N).filter fun h => @decide (Off hs rows qs h) (Classical.propDecidable _)
theorem offs_mem {N : Nat} {hs : List Nat} {rows qs : List (List UInt8)} {h : Nat} : h ∈ offs N hs rows qs ↔ h < N ∧ Off hs rows qs h := by
  unfold offs; rw [List.mem_filter, List.mem_range]; exact and_congr_right fun _ => @decide_eq_true_iff _ (Classical.propDecidable _)
theorem range_rising (n : Nat) : (List.range n).Pairwise (· < ·) := List.pairwise_lt_range
theorem offs_rising (N : Nat) (hs : List Nat) (rows qs : List (List UInt8)) : (offs N hs rows qs).Pairwise (· < ·) := (range_rising N).filter _
theorem zip_getD {hs : List Nat} {rows : List (List UInt8)} (hl : hs.length = rows.length) {p : Nat × List UInt8} : p ∈ hs.zip rows ↔ ∃ i, i < hs.length ∧ p = (hs.getD i 0, rows.getD i []) := by
  rw [List.mem_iff_getElem]
  constructor
  · rintro ⟨i, h, e⟩
    have h1 : i < hs.length := by simp at h; omega
    refine ⟨i, h1, ?_⟩
    rw [← e, List.getElem_zip]
    simp [List.getD_eq_getElem?_getD, h1, hl ▸ h1]
  · rintro ⟨i, h, e⟩
    refine ⟨i, by simp; omega, ?_⟩
    rw [e, List.getElem_zip]
    simp [List.getD_eq_getElem?_getD, h, hl ▸ h]
theorem off_iff {hs : List Nat} {rows qs : List (List UInt8)} (hl : hs.length = rows.length) {h : Nat} : Off hs rows qs h ↔ ∃ c, c < qs.length ∧ ∃ i ∈ wrongL (qs.getD c []) (ptsN hs) (colN rows c) hs.length, hs.getD i 0 = h := by
  unfold Off
  constructor
  · rintro ⟨c, hc, p, hp, rfl, hb⟩
    obtain ⟨i, hi, rfl⟩ := (zip_getD hl).1 hp
    refine ⟨c, hc, i, wrongL_mem hi ?_, rfl⟩
    rw [ptsN_getD hi, colN_getD (hl ▸ hi)]
    simpa [badAt] using hb
  · rintro ⟨c, hc, i, hi, rfl⟩
    obtain ⟨h1, h2⟩ := wrongL_lt hi
    refine ⟨c, hc, _, (zip_getD hl).2 ⟨i, h1, rfl⟩, rfl, ?_⟩
    rw [ptsN_getD h1, colN_getD (hl ▸ h1)] at h2
    simpa [badAt] using h2
def shareL (qs : List (List UInt8)) (h : Nat) : List UInt8 := qs.map fun q => hor (UInt8.ofNat (h + 1)) q
def columns (size K : Nat) : Nat := (size + K - 1) / K
end Go.Proofs.YtaikdcnifijcoaaGreat
set_option linter.unusedVariables false
set_option linter.unusedSimpArgs false
namespace Go.Proofs.YtaikdcnifijcoaaGreat
open Go Go.Vc Go.Gf
theorem columns_ok (size k : Nat) (H : Heap) (hk : 1 ≤ k) (hb : size ≤ 4611686018427387904) (hkb : k ≤ 4611686018427387904) : CallsH Tryz.prog 55 [I64 size, I64 k] H fun v H' => v = I64 (columns size k) ∧ H = H' := by
  refine CallsH.enter h55 Tryz.func55 rfl rfl rfl (by decide) fun u => go ?_
  have hd := Nat.div_add_mod size k
  have hm := Nat.mod_lt size (show 0 < k by omega)
  have hle : size / k ≤ size := Nat.div_le_self _ _
  refine Wp.br (fun h2 => ?_) (fun h2 => ?_) <;> refine go ?_
  · refine ret1 ⟨?_, rfl⟩
    have : columns size k = size / k + 1 := by
      unfold columns
      rw [show size + k - 1 = (size % k - 1) + k * (size / k + 1) by rw [Nat.mul_add]; omega, Nat.add_mul_div_left _ _ (by omega), Nat.div_eq_of_lt (by omega)]
      omega
    rw [this]
  · refine ret1 ⟨?_, rfl⟩
    have : columns size k = size / k := by
      unfold columns
      rw [show size + k - 1 = (k - 1) + k * (size / k) by omega, Nat.add_mul_div_left _ _ (by omega), Nat.div_eq_of_lt (by omega)]
      omega
    rw [this]
theorem point_ok (h : Nat) (H : Heap) : CallsH Tryz.prog 187 [I64 h] H fun v H' => v = B8 (UInt8.ofNat (h + 1)) ∧ H = H' := by
  refine CallsH.enter h187 Tryz.func187 rfl rfl rfl (by decide) fun u => go ?_
  refine ret1 ⟨?_, rfl⟩
  congr 1
  simp [UInt8.ofNat_add]
theorem ptsN_take {hs : List Nat} {k : Nat} (hk : k < hs.length) : ptsN (hs.take (k + 1)) = ptsN (hs.take k) ++ [UInt8.ofNat (hs.getD k 0 + 1)] := by
  have e : hs.take (k + 1) = hs.take k ++ [hs.getD k 0] := by
    rw [List.take_add_one, List.getElem?_eq_getElem hk]
    simp [List.getD_eq_getElem?_getD, hk]
  rw [e, ptsN, List.map_append]
  rfl
theorem points_ok (N T K E R : Nat) (s : Sl) (hs : List Nat) (H : Heap) (hr : RowF I64 0 H s hs) (hl : hs.length ≤ 140737488355328) :
    CallsH Tryz.prog 182 [pmV N T K E R, s.val] H (New H (ptsN hs)) := by
  refine CallsH.enter h182 Tryz.func182 rfl rfl rfl (by decide) fun u => go ?_
  refine RegS.boxA fun H0 x0 z0 b0 => ?_
  have hr0 := hr.ext x0
  refine go ?_
  refine RegS.makeRoom (n := hs.length) ?_ ?_ fun H1 o1 e1 z1 => ?_
  · omega
  · omega
  refine go ?_
  have x1 := x0.trans e1
  refine Wp.loop (ι := Nat × Sl) (fun i => [(1, s.val), (5, i.2.val), (11, s.val), (12, I64 hs.length), (13, I64 i.1)]) (fun i A => i.1 ≤ hs.length ∧ OwnF B8 A H.size 5 i.2 (ptsN (hs.take i.1)) ∧ Ext H A) (fun i => hs.length - i.1) (0, Sl.room H0.size hs.length) subs ⟨Nat.zero_le _, o1.low (by omega), x1⟩ ?_
  rintro ⟨i, a⟩ A ⟨hi, hA, eA⟩
  have hi : i ≤ hs.length := hi
  have hrA := hr.ext eA
  have hzA := eA.size
  have hpl : (ptsN (hs.take i)).length = i := by rw [ptsN_length, List.length_take]; omega
  show Wp _ _ _ [(1, s.val), (5, a.val), (11, s.val), (12, I64 hs.length), (13, I64 i)] _ _
  refine go ?_
  refine Wp.br (fun h => ?_) (fun h => ?_)
  · have h : (i : Int) < (hs.length : Int) := h
    refine go ?_
    refine RegS.call (point_ok _ A) ?_
    rintro _ _ ⟨rfl, rfl⟩
    refine go ?_
    refine RegS.buildSlice fun A4 o4 y4 w4 => ?_
    have m4 : Mine A4 A.size (Sl.fresh A.size 1) [UInt8.ofNat (hs.getD i 0 + 1)] := OwnR.mine (e := 5) o4
    have z4 := y4.size
    refine go ?_
    refine RegS.append (f := B8) (hA.ext y4) m4.bytes (fun _ => rfl) (by omega) ?_ ?_ ?_
    · simp only [List.length_singleton]; omega
    · simp only [List.length_singleton]; omega
    intro a' A5 hA' ca ba
    refine go ?_
    refine roundQ_n (i + 1, a') ⟨rfl, rfl, rfl, rfl, rfl, trivial⟩ ⟨by simp only; omega, ?_, (eA.trans y4).then ca fun x hx => (hA.blk_ge hx).1⟩ (by simp only; omega)
    show OwnF B8 _ _ _ _ (ptsN (hs.take (i + 1)))
    rw [ptsN_take (by omega)]; exact hA'
  · have h : ¬ (i : Int) < (hs.length : Int) := h
    have : i = hs.length := by omega
    subst this
    rw [List.take_length] at hA
    refine go ?_
    exact ret1 ⟨a, rfl, OwnR.mine hA, eA⟩
/-- A byte of each share. -/
theorem column_ok (s : Sl) (ss : List Sl) (rows : List (List UInt8)) (c : Nat) (H : Heap) (hs : BRows H s ss rows) (hl : rows.length ≤ 140737488355328) (hc : ∀ k, k < rows.length → c < (rows.getD k []).length) :
    CallsH Tryz.prog 184 [s.val, I64 c] H (New H (colN rows c)) := by
  have hrow := hs.row
  have hlen := hs.len
  refine CallsH.enter h184 Tryz.func184 rfl rfl rfl (by decide) fun u => go ?_
  refine RegS.makeRoom (n := ss.length) ?_ ?_ fun H1 o1 e1 z1 => ?_
  · omega
  · omega
  have hs1 := hs.ext e1
  have hrow1 := hs1.row
  refine go ?_
  refine Wp.loop (ι := Nat × Sl) (fun i => [(1, I64 c), (5, i.2.val), (11, s.val), (12, I64 ss.length), (13, I64 i.1)]) (fun i A => i.1 ≤ rows.length ∧ OwnF B8 A H.size 5 i.2 (colN (rows.take i.1) c) ∧ Ext H A) (fun i => rows.length - i.1) (0, Sl.room H.size ss.length) subs ⟨Nat.zero_le _, o1, e1⟩ ?_
  rintro ⟨i, a⟩ A ⟨hi, hA, eA⟩
  have hi : i ≤ rows.length := hi
  have hsA := hs.ext eA
  have hrowA := hsA.row
  have hzA := eA.size
  have hpl : (colN (rows.take i) c).length = i := by rw [colN_length, List.length_take]; omega
  show Wp _ _ _ [(1, I64 c), (5, a.val), (11, s.val), (12, I64 ss.length), (13, I64 i)] _ _
  refine go ?_
  refine Wp.br (fun h => ?_) (fun h => ?_)
  · have h : (i : Int) < (ss.length : Int) := h
    have hb := hsA.each i (by omega)
    have hci := hc i (by omega)
    refine go ?_
    refine RegS.buildSlice fun A4 o4 y4 w4 => ?_
    have m4 : Mine A4 A.size (Sl.fresh A.size 1) [(rows.getD i []).getD c 0] := OwnR.mine (e := 5) o4
    have z4 := y4.size
    refine go ?_
    refine RegS.append (f := B8) (hA.ext y4) m4.bytes (fun _ => rfl) (by omega) ?_ ?_ ?_
    · simp only [List.length_singleton]; omega
    · simp only [List.length_singleton]; omega
    intro a' A5 hA' ca ba
    refine go ?_
    refine roundQ_n (i + 1, a') ⟨rfl, rfl, rfl, rfl, rfl, trivial⟩ ⟨by simp only; omega, ?_, (eA.trans y4).then ca fun x hx => (hA.blk_ge hx).1⟩ (by simp only; omega)
    show OwnF B8 _ _ _ _ (colN (rows.take (i + 1)) c)
    have e : rows.take (i + 1) = rows.take i ++ [rows.getD i []] := by
      rw [List.take_add_one, List.getElem?_eq_getElem (by omega)]
      simp [List.getD_eq_getElem?_getD, show i < rows.length by omega]
    rw [e, colN, List.map_append]; exact hA'
  · have h : ¬ (i : Int) < (ss.length : Int) := h
    have : i = rows.length := by omega
    subst this
    rw [List.take_length] at hA
    refine go ?_
    exact ret1 ⟨a, rfl, OwnR.mine hA, eA⟩
end Go.Proofs.YtaikdcnifijcoaaGreat
set_option linter.unusedVariables false
set_option linter.unusedSimpArgs false
namespace Go.Proofs.YtaikdcnifijcoaaGreat
open Go Go.Vc Go.Gf
def enoughP (N m : Nat) (cols : Int) (fl : List Int) (rows : List (List UInt8)) : Prop :=
  fl.length = rows.length ∧ m ≤ fl.length ∧ 0 ≤ cols ∧ ∀ n, n < fl.length → 0 ≤ fl.getD n 0 ∧ fl.getD n 0 < N ∧ fl.getD n 0 ∉ fl.take n ∧ ((rows.getD n []).length : Int) = cols
theorem enough_ok (N T K E R : Nat) (cols : Int) (s r : Sl) (ss : List Sl) (fl : List Int) (rows : List (List UInt8)) (H : Heap) (hs : RowF IV 0 H s fl) (hr : BRows H r ss rows) (hl : fl.length ≤ 9223372036854775807) (hl2 : rows.length ≤ 9223372036854775807) (hT : T ≤ 255) (hK : K ≤ 255) (hE : E ≤ 255) :
    CallsH Tryz.prog 181 [pmV N T K E R, IV cols, s.val, r.val] H fun v H' => v = .bool (dec (enoughP N (T + K + E) cols fl rows)) ∧ Ext H H' := by
  have hrow := hr.row
  have hlen := hr.len
  refine CallsH.enter h181 Tryz.func181 rfl rfl rfl (by decide) fun u => go ?_
  refine RegS.boxA fun H0 x0 z0 b0 => ?_
  have hs0 := hs.ext x0
  have hr0 := hr.ext x0
  have hrow0 := hr0.row
  refine go ?_
  have no : ∀ A, Ext H A → ¬ enoughP N (T + K + E) cols fl rows → (Value.bool false = Value.bool (dec (enoughP N (T + K + E) cols fl rows)) ∧ Ext H A) := fun A x h => ⟨by rw [dec_neg h], x⟩
  refine RegS.sp (fun h1 => ?_) (fun h1 => ?_) <;> refine go ?_
  · exact ret1 (no H0 x0 fun k => h1 (by have := k.1; omega))
  refine RegS.sp (fun h2 => ?_) (fun h2 => ?_) <;> refine go ?_
  · exact ret1 (no H0 x0 fun k => by have := k.2.1; omega)
  refine Wp.br (fun h3 => ?_) (fun h3 => ?_) <;> refine go ?_
  · exact ret1 (no H0 x0 fun k => by have := k.2.2.1; omega)
  refine Wp.loop (ι := Nat) (fun i => [(1, IV cols), (2, s.val), (3, r.val), (4, .pointer (some ⟨H.size, 0, none⟩)), (33, s.val), (34, I64 fl.length), (35, I64 i)])
    (fun i A => i ≤ fl.length ∧ (∀ n, n < i → 0 ≤ fl.getD n 0 ∧ fl.getD n 0 < N ∧ fl.getD n 0 ∉ fl.take n ∧ ((rows.getD n []).length : Int) = cols) ∧ Ext H0 A) (fun i => fl.length - i) 0 subs ⟨by omega, fun k h => absurd h (by omega), Ext.refl _⟩ ?_
  rintro i A ⟨hi, hall, eA⟩
  have hsA := hs0.ext eA
  have hrA := hr0.ext eA
  have hrowA := hrA.row
  have bA := b0.ext eA
  have xA := x0.trans eA
  have hsl : s.len = fl.length := hs.len
  refine go ?_
  refine Wp.br (fun h => ?_) (fun h => ?_)
  · have h : (i : Int) < (fl.length : Int) := h
    have hb := hrA.each i (by omega)
    refine go ?_
    refine RegS.sp (fun h4 => ?_) (fun h4 => ?_) <;> refine go ?_
    · exact ret1 (no A xA fun k => by have := (k.2.2.2 i (by omega)).1; omega)
    refine RegS.sp (fun h5 => ?_) (fun h5 => ?_) <;> refine go ?_
    · exact ret1 (no A xA fun k => by have := (k.2.2.2 i (by omega)).2.1; omega)
    refine RegS.cut 0 i s.cap (.inl ⟨rfl, rfl⟩) (.inr ⟨_, _, rfl, rfl⟩) (.inl ⟨rfl, rfl⟩) ⟨Nat.zero_le _, by have := s.le; omega, Nat.le_refl _⟩ ?_
    have hcut := hsA.cut (l := 0) (h := i) (m := s.cap) (by have := s.le; omega) (by omega)
    refine go ?_
    refine RegS.call (containsI_ok _ _ (fl.getD i 0) A hcut (by simp; omega)) ?_
    rintro _ _ ⟨rfl, rfl⟩
    rw [List.drop_zero]
    refine go ?_
    refine RegS.sp (fun h6 => ?_) (fun h6 => ?_) <;> refine go ?_
    · exact ret1 (no A xA fun k => (k.2.2.2 i (by omega)).2.2.1 h6)
    refine Wp.br (fun h7 => ?_) (fun h7 => ?_) <;> refine go ?_
    · exact ret1 (no A xA fun k => h7 (k.2.2.2 i (by omega)).2.2.2)
    refine roundQ_n (i + 1) ⟨rfl, rfl, rfl, rfl, rfl, rfl, rfl, trivial⟩ ⟨by omega, fun k hk => ?_, eA⟩ (by omega)
    by_cases e : k = i
    · subst e; exact ⟨by omega, by omega, h6, Classical.not_not.1 h7⟩
    · exact hall k (by omega)
  · have h : ¬ (i : Int) < (fl.length : Int) := h
    have : i = fl.length := by omega
    subst this
    refine go ?_
    refine ret1 ⟨?_, xA⟩
    rw [dec_pos ⟨by omega, by omega, by omega, hall⟩]
end Go.Proofs.YtaikdcnifijcoaaGreat
