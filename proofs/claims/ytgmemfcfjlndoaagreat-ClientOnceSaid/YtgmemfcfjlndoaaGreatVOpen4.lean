/-
  Documents of columns, walked.
-/
import Derived.Test.YtgmemfcfjlndoaaGreatVOpen3
import Derived.Test.YtgmemfcfjlndoaaGreatVcMem
set_option linter.unusedVariables false
set_option linter.unusedSimpArgs false
namespace Go.Proofs.YtgmemfcfjlndoaaGreat
open Go Go.Vc Go.Gf

theorem grow_ok (n : Nat) (H : Heap) (hn : n ≤ 140737488355328) : CallsH Tryz.prog 242 [Sl.nil.val, I64 n] H fun v H' => ∃ s : Sl, v = s.val ∧ OwnF B8 H' H.size 5 s [] ∧ Ext H H' := by
  refine CallsH.enter h242 Tryz.func242 rfl rfl rfl (by decide) fun u => go ?_
  refine RegS.cap (s := Sl.nil) ?_
  have hc0 : ((Sl.nil.cap : Nat) : Int) = ((0 : Nat) : Int) := rfl
  rw [hc0]
  refine go ?_
  refine Wp.br (fun h => ?_) (fun h => ?_)
  · refine go ?_
    refine RegS.cap (s := Sl.nil) ?_
    rw [hc0]
    refine go ?_
    refine RegS.cut (s := Sl.nil) 0 0 0 (.inl ⟨rfl, rfl⟩) (.inr ⟨_, _, rfl, rfl⟩) (.inl ⟨rfl, rfl⟩) ⟨Nat.le_refl _, Nat.le_refl _, Nat.le_refl _⟩ ?_
    have hcut : (Sl.nil.cut 0 0 0) = Sl.nil := rfl
    rw [hcut]
    refine go ?_
    refine RegS.appendZeros (n := n - (0 - 0)) ?_ ?_ ?_ fun s1 H1 o1 e1 => ?_
    · omega
    · omega
    · omega
    refine go ?_
    refine RegS.cut 0 0 s1.cap (.inl ⟨rfl, rfl⟩) (.inr ⟨_, _, rfl, rfl⟩) (.inl ⟨rfl, rfl⟩) ⟨Nat.le_refl _, Nat.zero_le _, Nat.le_refl _⟩ ?_
    refine go ?_
    exact ret1 ⟨_, rfl, (OwnR.cut0 o1 ⟨Nat.le_refl _, Nat.zero_le _, Nat.le_refl _⟩).1, e1⟩
  · refine go ?_
    exact ret1 ⟨Sl.nil, rfl, OwnR.nil _ _ _ _, Ext.refl _⟩
theorem flat_take {rows : List (List UInt8)} {i : Nat} (hi : i < rows.length) : (rows.take (i + 1)).flatten = (rows.take i).flatten ++ rows.getD i [] := by
  rw [List.take_add_one, List.getElem?_eq_getElem hi, List.flatten_append]
  simp [List.getD_eq_getElem?_getD, hi]
theorem flat_le (rows : List (List UInt8)) (i : Nat) : (rows.take i).flatten.length ≤ rows.flatten.length := by
  conv => rhs; rw [← List.take_append_drop i rows]
  rw [List.flatten_append, List.length_append]; omega
theorem concat_ok (s : Sl) (ss : List Sl) (rows : List (List UInt8)) (H : Heap) (hs : BRows H s ss rows) (hl : rows.length ≤ 9223372036854775807) (hn : rows.flatten.length ≤ 140737488355328) :
    CallsH Tryz.prog 190 [s.val] H (New H rows.flatten) := by
  have hrow := hs.row
  have hlen := hs.len
  refine CallsH.enter h190 Tryz.func190 rfl rfl rfl (by decide) fun u => go ?_
  refine Wp.loop (ι := Nat) (fun i => [(0, s.val), (3, I64 (rows.take i).flatten.length), (9, s.val), (10, I64 ss.length), (11, I64 i)]) (fun i A => i ≤ rows.length ∧ H = A) (fun i => rows.length - i) 0 subs ⟨Nat.zero_le _, rfl⟩ ?_
  rintro i _ ⟨hi, rfl⟩
  have hfl := flat_le rows i
  have hfl2 := flat_le rows (i + 1)
  refine go ?_
  refine Wp.br (fun h => ?_) (fun h => ?_)
  · have h : (i : Int) < (ss.length : Int) := h
    have hb := hs.each i (by omega)
    have hft := congrArg List.length (flat_take (rows := rows) (i := i) (by omega))
    rw [List.length_append] at hft
    refine go ?_
    refine roundQ_n (i + 1) ⟨rfl, ?_, rfl, rfl, rfl, trivial⟩ ⟨by omega, rfl⟩ (by omega)
    exact get_int rfl (by simp only [hft])
  have h : ¬ (i : Int) < (ss.length : Int) := h
  have : i = rows.length := by omega
  subst this
  rw [List.take_length]
  refine go ?_
  refine RegS.call (grow_ok rows.flatten.length H hn) ?_
  rintro _ H1 ⟨a0, rfl, o1, e1⟩
  have hs1 := hs.ext e1
  have hrow1 := hs1.row
  refine go ?_
  refine Wp.loop (ι := Nat × Sl) (fun i => [(0, s.val), (6, i.2.val), (25, s.val), (26, I64 ss.length), (27, I64 i.1)]) (fun i A => i.1 ≤ rows.length ∧ OwnF B8 A H.size 5 i.2 (rows.take i.1).flatten ∧ Ext H A) (fun i => rows.length - i.1) (0, a0) subs ⟨Nat.zero_le _, o1, e1⟩ ?_
  rintro ⟨j, a⟩ A ⟨hj, hA, eA⟩
  have hj : j ≤ rows.length := hj
  have hA : OwnF B8 A H.size 5 a (rows.take j).flatten := hA
  have hsA := hs.ext eA
  have hrowA := hsA.row
  have hzA := eA.size
  have hfl := flat_le rows j
  have hfl2 := flat_le rows (j + 1)
  show Wp _ _ _ [(0, s.val), (6, a.val), (25, s.val), (26, I64 ss.length), (27, I64 j)] _ _
  refine go ?_
  refine Wp.br (fun h => ?_) (fun h => ?_)
  · have h : (j : Int) < (ss.length : Int) := h
    have hb := hsA.each j (by omega)
    have hf := flat_take (rows := rows) (i := j) (by omega)
    have hft := congrArg List.length hf
    rw [List.length_append] at hft
    refine go ?_
    refine RegS.append (f := B8) hA hb (fun _ => rfl) (by omega) ?_ ?_ ?_
    · omega
    · omega
    intro a' A5 hA' ca ba
    refine go ?_
    refine roundQ_n (j + 1, a') subs ⟨by simp only; omega, ?_, eA.then ca fun x hx => (hA.blk_ge hx).1⟩ (by simp only; omega)
    show OwnF B8 _ _ _ _ (rows.take (j + 1)).flatten
    rw [hf]; exact hA'
  · have h : ¬ (j : Int) < (ss.length : Int) := h
    have : j = rows.length := by omega
    subst this
    rw [List.take_length] at hA
    refine go ?_
    exact ret1 ⟨a, rfl, OwnR.mine hA, eA⟩
theorem join1_ok (b k : Nat) (s : Sl) (H : Heap) (hb : Box H b 3 (I64 k)) : CallsH Tryz.prog 189 [s.val, .pointer (some ⟨b, 0, none⟩)] H fun v H' => v = .bool (dec (s.len ≠ k)) ∧ H = H' := by
  refine CallsH.enter h189 Tryz.func189 rfl rfl rfl (by decide) fun u => go ?_
  refine RegS.rd rfl rfl (Rd.len rfl rfl rfl rfl) ?_
  refine go ?_
  refine ret1 ⟨?_, rfl⟩
  exact congrArg _ (dec_congr (by omega))
theorem join_ok (s : Sl) (ss : List Sl) (rows : List (List UInt8)) (size k : Nat) (H : Heap) (hs : BRows H s ss rows) (hl : rows.length ≤ 100000) (hk : 1 ≤ k) (hk2 : k ≤ 255) (hsz : size ≤ 100000) (hc : rows.length = columns size k) (hw : ∀ i, i < rows.length → (rows.getD i []).length = k) :
    CallsH Tryz.prog 121 [s.val, I64 size, I64 k] H fun v H' => ∃ s' : Sl, v = .tuple #[s'.val, .bool true] ∧ Mine H' H.size s' (rows.flatten.take size) ∧ Ext H H' := by
  have hrow := hs.row
  have hlen := hs.len
  have hfl : ∀ i, i ≤ rows.length → (rows.take i).flatten.length = i * k := by
    intro i
    induction i with
    | zero => intro _; simp
    | succ i ih => intro hi; rw [flat_take (by omega), List.length_append, ih (by omega), hw i (by omega), Nat.succ_mul]
  have hfa := hfl rows.length (Nat.le_refl _)
  rw [List.take_length] at hfa
  have hbig : rows.length * k ≤ 100000 * 255 := Nat.mul_le_mul hl hk2
  have hge := columns_ge (size := size) (K := k) hk
  rw [← hc] at hge
  refine CallsH.enter h121 Tryz.func121 rfl rfl rfl (by decide) fun u => go ?_
  refine RegS.box fun H0 x0 z0 b0 => ?_
  have hB : Box H0 H.size 3 (I64 k) := ⟨b0⟩
  have hs0 := hs.ext x0
  have hrow0 := hs0.row
  refine go ?_
  refine RegS.call (columns_ok size k H0 hk (by omega) (by omega)) ?_
  rintro _ _ ⟨rfl, rfl⟩
  refine go ?_
  refine RegS.call (containsFunc_ok 189 [.pointer (some ⟨H.size, 0, none⟩)] s ss (fun i => (ss.getD i Sl.nil).len ≠ k) H0 hrow0 (fun i hi => join1_ok _ _ _ H0 hB) (by omega)) ?_
  rintro _ _ ⟨rfl, rfl⟩
  rw [dec_neg (by
    rintro ⟨i, hi, h⟩
    have := (hs0.each i (by omega)).len
    have := hw i (by omega)
    omega)]
  refine go ?_
  refine RegS.call (concat_ok s ss rows H0 hs0 (by omega) (by omega)) ?_
  rintro _ H2 ⟨a, rfl, ma, x2⟩
  have hal := ma.bytes.len
  have hle := a.le
  refine go ?_
  refine RegS.cut 0 size a.cap (.inl ⟨rfl, rfl⟩) (.inr ⟨_, _, rfl, rfl⟩) (.inl ⟨rfl, rfl⟩) ⟨Nat.zero_le _, by omega, Nat.le_refl _⟩ ?_
  have mc := ma.cut (a := 0) (h := size) (m := a.cap) ⟨Nat.zero_le _, by omega, Nat.le_refl _⟩ (by omega)
  rw [List.drop_zero] at mc
  generalize a.cut 0 size a.cap = c at mc
  refine go ?_
  refine RegS.call (clip_ok c _ _ H2 mc) ?_
  rintro _ _ ⟨rfl, rfl⟩
  have hcl := mc.bytes.len
  have mc2 := mc.cut (a := 0) (h := c.len) (m := c.len) ⟨Nat.zero_le _, Nat.le_refl _, c.le⟩ (by omega)
  rw [List.drop_zero, hcl, List.take_length] at mc2
  rw [hcl]
  refine go ?_
  exact ret2 ⟨_, rfl, mc2.low (by omega), x0.trans x2⟩
/-- A document of shares. -/
def OpenR (H : Heap) (N T K E size : Nat) (fl : List Int) (rows : List (List UInt8)) (v : Value) (H' : Heap) : Prop :=
  Ext H H' ∧ ((∃ (hs : List Nat) (qs : List (List UInt8)) (a w : Sl), isFound N T K E (columns size K : Nat) fl rows hs qs ∧ v = .tuple #[a.val, w.val, .bool true] ∧ Mine H' H.size a (docL N K size qs) ∧ OwnF I64 H' H.size 3 w (offs N hs rows qs)) ∨
    ((∀ hs qs, ¬ isFound N T K E (columns size K : Nat) fl rows hs qs) ∧ v = .tuple #[Sl.nil.val, Sl.nil.val, .bool false]))
theorem columns_le {size K : Nat} (hK : 1 ≤ K) : columns size K ≤ size := by
  unfold columns
  rw [Nat.div_le_iff_le_mul_add_pred (by omega)]
  have := Nat.mul_le_mul_right size hK
  rw [Nat.mul_comm K size]
  rw [Nat.one_mul] at this
  have : size * 1 ≤ size * K := Nat.mul_le_mul_left size hK
  omega
set_option maxHeartbeats 4000000 in
theorem open_ok (fb N T K E R size : Nat) (s r : Sl) (rs : List Sl) (fl : List Int) (rows : List (List UInt8)) (H : Heap) (hF : IsField H fb) (hs : RowF IV 0 H s fl) (hr : BRows H r rs rows)
    (hl : fl.length ≤ 9223372036854775807) (hl2 : rows.length ≤ 9223372036854775807) (hT0 : 1 ≤ T) (hT : T ≤ 255) (hK0 : 1 ≤ K) (hK : K ≤ 255) (hE : E ≤ 255) (hN : N ≤ 255) (hd : T + K ≤ 256) (hsz : size ≤ 256) :
    CallsH Tryz.prog 58 [fieldV fb, pmV N T K E R, I64 size, s.val, r.val] H (OpenR H N T K E size fl rows) := by
  have hcle := columns_le (size := size) hK0
  refine CallsH.enter h58 Tryz.func58 rfl rfl rfl (by decide) fun u => go ?_
  refine RegS.boxA fun H0 x0 z0 b0 => ?_
  have hs0 := hs.ext x0
  have hr0 := hr.ext x0
  have hF0 := hF.ext x0
  refine go ?_
  refine RegP.call (columns_ok size K H0 hK0 (by omega) (by omega)) ?_
  rintro _ _ ⟨rfl, rfl⟩
  refine ⟨.inl (Ext.refl _), ?_⟩
  refine go ?_
  refine RegP.call (find_ok fb N T K E R (columns size K : Nat) s r rs fl rows H0 hF0 hs0 hr0 hl hl2 hT0 hT hK hE hN (by omega) hd) ?_
  rintro _ H1 ⟨x1, hf⟩
  refine ⟨.inl x1, ?_⟩
  have x01 := x0.trans x1
  obtain ⟨hs', qs, a, w, ss, hfd, rfl, hS⟩ | ⟨hno, rfl⟩ := hf
  case inr =>
    refine go ?_
    exact ret3 ⟨x01, .inr ⟨hno, rfl⟩⟩
  obtain ⟨hfl, hfew, hen, hfo⟩ := id hfd
  have hql : qs.length = columns size K := by have := hfo.len; omega
  have hqn : ∀ c, c < qs.length → (qs.getD c []).length ≤ 256 := fun c hc => by
    obtain ⟨_, _, _, _, _, _, _, h1, h2, _⟩ := hfo.good c (by omega)
    rw [← h1, tl_length]; omega
  have b1 := b0.ext x1
  have hF1 := hF.ext x01
  have hrowS := hS.mat.row
  have hssl : ss.length = qs.length := hS.mat.len
  have z1 := x1.size
  refine go ?_
  refine Wp.loop (ι := Nat × Sl × List Sl) (fun i => [(0, fieldV fb), (2, I64 size), (6, .pointer (some ⟨H.size, 0, none⟩)), (11, w.val), (14, i.2.1.val), (38, a.val), (39, I64 ss.length), (40, I64 i.1)])
    (fun i A => i.1 ≤ qs.length ∧ Ext H1 A ∧ Mat A H1.size 36 i.2.1 i.2.2 ((qs.take i.1).map fun q => vals q (secP N K))) (fun i => qs.length - i.1) (0, Sl.nil, []) subs ⟨Nat.zero_le _, Ext.refl _, Mat.nil _ _ _⟩ ?_
  rintro ⟨i, t, tt⟩ A ⟨hi, eA, hM⟩
  have hi : i ≤ qs.length := hi
  have hM : Mat A H1.size 36 t tt ((qs.take i).map fun q => vals q (secP N K)) := hM
  have hml : tt.length = i := by have := hM.len; simp at this; omega
  have bA := b1.ext eA
  have hSA := hS.ext eA
  have hrowA := hSA.mat.row
  have zA := eA.size
  show Wp _ _ _ [(0, fieldV fb), (2, I64 size), (6, .pointer (some ⟨H.size, 0, none⟩)), (11, w.val), (14, t.val), (38, a.val), (39, I64 ss.length), (40, I64 i)] _ _
  refine go ?_
  refine Wp.br (fun h => ?_) (fun h => ?_)
  · have h : (i : Int) < (ss.length : Int) := h
    have hq := hqn i (by omega)
    refine go ?_
    refine RegS.call (secrets_ok N T K E R A hK hN) ?_
    rintro _ A1 ⟨sx, rfl, mx, y1⟩
    refine go ?_
    refine RegS.call (encode_ok fb (ss.getD i Sl.nil) sx (qs.getD i []) (secP N K) A1 (hF1.ext (eA.trans y1)) ((hSA.mat.each i (by omega)).ext y1).bytes mx.bytes (by omega) (by rw [secP_length]; omega)) ?_
    rintro _ A2 ⟨sv, rfl, mv, y2⟩
    refine go ?_
    refine RegS.buildSlice fun A3 o3 y3 w3 => ?_
    have r3 : RowF Sl.val Sl.nil A3 (Sl.fresh A2.size 1) [sv] := OwnR.rowF (f := Sl.val) (l := [sv]) o3
    have y13 := (y1.trans y2).trans y3
    have hM3 := hM.ext y13
    have z3 := y13.size
    have zz1 := y1.size
    refine go ?_
    refine RegS.append (f := Sl.val) hM3.arr r3 (fun _ => rfl) (by omega) ?_ ?_ ?_
    · simp only [List.length_singleton]; omega
    · simp only [List.length_singleton]; omega
    intro t' A4 o4 c4 b4
    have hM4 := Mat.app (S := fun _ => False) hM3 ((mv.ext y3).low (by omega)) (fun j x hj hx hx' => by have := ((hM.each j hj).blk x hx).2; have := (mv.blk x hx').1; omega) (fun x hx hx' => by have := (hM.arr.blk_ge hx').2; have := (mv.blk x hx).1; omega) o4 c4 b4
    refine go ?_
    refine roundQ_n (i + 1, t', tt ++ [sv]) subs ⟨by simp only; omega, (eA.trans y13).then c4 fun x hx => (hM3.arr.blk_ge hx).1, ?_⟩ (by simp only; omega)
    show Mat _ _ _ _ _ ((qs.take (i + 1)).map fun q => vals q (secP N K))
    have e5 : qs.take (i + 1) = qs.take i ++ [qs.getD i []] := by
      rw [List.take_add_one, List.getElem?_eq_getElem (by omega)]
      simp [List.getD_eq_getElem?_getD, show i < qs.length by omega]
    rw [e5, List.map_append]; exact hM4
  · have h : ¬ (i : Int) < (ss.length : Int) := h
    have : i = qs.length := by omega
    subst this
    rw [List.take_length] at hM
    refine go ?_
    refine RegS.call (join_ok t tt _ size K A hM.brows (by simp; omega) hK0 hK (by omega) (by simpa using hql) (fun j hj => by
      simp only [List.length_map] at hj
      simp [List.getD_eq_getElem?_getD, hj, vals_length, secP_length])) ?_
    rintro _ A1 ⟨sj, rfl, mj, y1⟩
    refine go ?_
    have eAll := x01.trans (eA.trans y1)
    refine ret3 ⟨eAll, .inl ⟨hs', qs, sj, w, hfd, rfl, ?_, ((hSA.ext y1).wr.low (by have := x0.size; omega))⟩⟩
    have hdoc : docL N K size qs = (qs.map fun q => vals q (secP N K)).flatten.take size := by
      unfold docL; rw [List.flatMap_def]
    rw [hdoc]
    exact mj.low (by have := (x01.trans eA).size; omega)
end Go.Proofs.YtgmemfcfjlndoaaGreat
