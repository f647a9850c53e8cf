/-
  The walks of package bw: the candidate, and Decode.
-/
import Derived.Test.YtaikdcnifijcoaaGreatQ39
set_option linter.unusedVariables false
set_option linter.unusedSimpArgs false
namespace Go.Proofs.YtaikdcnifijcoaaGreat
open Go Go.Vc Go.Gf
def CandR (H : Heap) (xs ys : List UInt8) (d w : Nat) (v : Value) (H' : Heap) : Prop :=
  Ext H H' ∧ ∃ p : Sl, v = .tuple #[p.val, .bool (dec (candOk xs ys d w))] ∧ (candOk xs ys d w → Mine H' H.size p (candP xs ys d w))
theorem getD_app_last {ss : List Sl} {s : Sl} {j : Nat} (h : j ≤ ss.length) : (ss ++ [s]).getD j Sl.nil = if j < ss.length then ss.getD j Sl.nil else s := by
  by_cases hlt : j < ss.length
  · rw [if_pos hlt]; simp [List.getD_eq_getElem?_getD, List.getElem?_append, hlt]
  · rw [if_neg hlt]; simp [List.getD_eq_getElem?_getD, List.getElem?_append, hlt, show j - ss.length = 0 by omega]
set_option maxHeartbeats 4000000 in
theorem candidate_ok (fb : Nat) (s r : Sl) (xs ys : List UInt8) (d w : Nat) (H : Heap) (hF : IsField H fb) (hs : Bytes H s xs) (hr : Bytes H r ys) (hl : xs.length = ys.length) (h0 : 0 < xs.length) (hx : xs.length ≤ 255) (hd : d ≤ 255) (hw : w ≤ 255) :
    CallsH Tryz.prog 239 [fieldV fb, s.val, r.val, I64 d, I64 w] H (CandR H xs ys d w) := by
  refine CallsH.enter h239 Tryz.func239 rfl rfl rfl (by decide) fun u => go ?_
  refine Wp.loop (ι := Nat × Sl × Sl × List Sl) (fun i => [(0, fieldV fb), (1, s.val), (2, r.val), (3, I64 d), (4, I64 w), (12, i.2.1.val), (13, i.2.2.1.val), (24, I64 xs.length), (25, I64 i.1)])
    (fun i A => i.1 ≤ xs.length ∧ Ext H A ∧ Mat A H.size 36 i.2.1 i.2.2.2 (rowsE xs ys d w i.1) ∧ OwnF B8 A H.size 5 i.2.2.1 (rhssE xs ys w i.1) ∧ (∀ x, i.2.2.1.blk = some x → i.2.1.blk ≠ some x) ∧ (∀ x j, i.2.2.1.blk = some x → j < i.1 → (i.2.2.2.getD j Sl.nil).blk ≠ some x)) (fun i => xs.length - i.1) (0, Sl.nil, Sl.nil, []) subs ⟨Nat.zero_le _, Ext.refl _, Mat.nil _ _ _, OwnR.nil _ _ _ _, fun x h => by simp [Sl.blk, Sl.nil] at h, fun x j h => by simp [Sl.blk, Sl.nil] at h⟩ ?_
  rintro ⟨k, t, q, ss⟩ A ⟨hk, eA, hM, hO, hqt, hqs⟩
  have hk : k ≤ xs.length := hk
  have hM : Mat A H.size 36 t ss (rowsE xs ys d w k) := hM
  have hO : OwnF B8 A H.size 5 q (rhssE xs ys w k) := hO
  have hqt : ∀ x, q.blk = some x → t.blk ≠ some x := hqt
  have hqs : ∀ x j, q.blk = some x → j < k → (ss.getD j Sl.nil).blk ≠ some x := hqs
  have hsA := hs.ext eA
  have hrA := hr.ext eA
  have hsl : ss.length = k := by have := hM.len; rwa [rowsE_length] at this
  have hol : (rhssE xs ys w k).length = k := mk_length _ _
  have zA := eA.size
  refine go ?_
  refine Wp.br (fun h => ?_) (fun h => ?_)
  · have h : (k : Int) < (xs.length : Int) := h
    refine go ?_
    refine RegP.call (equation_ok fb (xs.getD k 0) (ys.getD k 0) d w A (hF.ext eA) hd hw) ?_
    rintro _ A1 ⟨row, rfl, mr, e1⟩
    refine ⟨.inl e1, ?_⟩
    refine go ?_
    refine RegS.buildSlice fun A2 o2 y2 w2 => ?_
    have r2 : RowF Sl.val Sl.nil A2 (Sl.fresh A1.size 1) [row] := OwnR.rowF (f := Sl.val) (l := [row]) o2
    have hM2 := hM.ext (e1.trans y2)
    have z2 := (e1.trans y2).size
    refine go ?_
    refine RegS.append (f := Sl.val) hM2.arr r2 (fun _ => rfl) (by omega) ?_ ?_ ?_
    · simp only [List.length_singleton]; omega
    · simp only [List.length_singleton]; omega
    intro t' A3 o3 c3 b3
    have z3 := c3.size
    have hM3 := Mat.app (S := fun _ => False) hM2 ((mr.ext y2).low (by omega)) (fun j x hj hx hx' => by have := ((hM.each j hj).blk x hx).2; have := (mr.blk x hx').1; omega) (fun x hx hx' => by have := (hM.arr.blk_ge hx').2; have := (mr.blk x hx).1; omega) o3 c3 b3
    have hO3 := (hO.ext (e1.trans y2)).chg c3 fun x hx hx' => hqt x hx hx'
    have x3 : Ext H A3 := (eA.trans (e1.trans y2)).then c3 fun x hx => (hM2.arr.blk_ge hx).1
    refine go ?_
    refine RegS.buildSlice fun A4 o4 y4 w4 => ?_
    have m4 : Mine A4 A3.size (Sl.fresh A3.size 1) [rhsE (xs.getD k 0) (ys.getD k 0) w] := OwnR.mine (e := 5) o4
    have hO4 := hO3.ext y4
    have z4 := y4.size
    refine go ?_
    refine RegS.append (f := B8) hO4 m4.bytes (fun _ => rfl) (by omega) ?_ ?_ ?_
    · simp only [List.length_singleton]; omega
    · simp only [List.length_singleton]; omega
    intro q' A5 o5 c5 b5
    have hqlt : ∀ x, q.blk = some x → x < A.size := fun x hx => (hO.blk_ge hx).2
    have hM5 := (hM3.ext y4).chg' c5 (fun x hx hx' => by
      rcases b3 with b3 | ⟨z, b3, hz⟩
      · exact hqt x hx' (b3 ▸ hx)
      · rw [b3] at hx; simp only [Option.some.injEq] at hx; have := hqlt x hx'; omega) (fun j x hj hx hx' => by
      simp only [List.length_append, List.length_singleton, rowsE_length] at hj
      rw [getD_app_last (by omega)] at hx
      split at hx
      · exact hqs x j hx' (by omega) hx
      · have := (mr.blk x hx).1; have := hqlt x hx'; omega)
    refine go ?_
    refine roundQ_n (k + 1, t', q', ss ++ [row]) subs ⟨by simp only; omega, (x3.trans y4).then c5 fun x hx => (hO4.blk_ge hx).1, ?_, ?_, ?_, ?_⟩ (by simp only; omega)
    · show Mat _ _ _ _ _ (rowsE xs ys d w (k + 1))
      rw [rowsE_succ]
      exact hM5
    · show OwnF B8 _ _ _ _ (rhssE xs ys w (k + 1))
      rw [rhssE_succ]
      exact o5
    · intro x hx hx'
      have hx : q'.blk = some x := hx
      have hx' : t'.blk = some x := hx'
      have ht' : x < A4.size := (hM3.ext y4).arr.blk_ge hx' |>.2
      rcases b5 with b5 | ⟨z, b5, hz⟩
      · rw [b5] at hx
        rcases b3 with b3 | ⟨z, b3, hz⟩
        · exact hqt x hx (b3 ▸ hx')
        · rw [b3] at hx'; simp only [Option.some.injEq] at hx'; have := hqlt x hx; omega
      · rw [b5] at hx; simp only [Option.some.injEq] at hx; omega
    · intro x j hx hj hx'
      have hx : q'.blk = some x := hx
      have hj : j < k + 1 := hj
      have hx' : ((ss ++ [row]).getD j Sl.nil).blk = some x := hx'
      have ht' : x < A4.size := ((hM3.ext y4).each j (by simp [rowsE_length]; omega)).blk x hx' |>.2
      rcases b5 with b5 | ⟨z, b5, hz⟩
      · rw [b5] at hx
        rw [getD_app_last (by omega)] at hx'
        split at hx'
        · exact hqs x j hx (by omega) hx'
        · have := (mr.blk x hx').1; have := hqlt x hx; omega
      · rw [b5] at hx; simp only [Option.some.injEq] at hx; omega
  have h : ¬ (k : Int) < (xs.length : Int) := h
  have : k = xs.length := by omega
  subst this
  have hrow0 : ((rowsE xs ys d w xs.length).getD 0 []).length = d + 1 + 2 * w := by rw [rowsE_row h0, rowE_length]
  have hRl := rowsE_length xs ys d w xs.length
  have mO := OwnR.mine (e := 5) hO
  refine go ?_
  refine RegS.call (solve_ok fb t q ss _ _ A (hF.ext eA) hM.brows mO.bytes (by omega) (by omega)) ?_
  rintro _ B ⟨eB, hB⟩
  rw [hrow0] at hB
  have xB := eA.trans eB
  obtain ⟨hb, _⟩ | ⟨_, _, hb, _⟩ | ⟨_, _, _, hb, rfl⟩ | ⟨_, _, _, hb, x, rfl, mx⟩ := hB
  · exact absurd ⟨rowsE_rect xs ys d w _, by rw [hol, hRl]⟩ hb
  · omega
  · refine go ?_
    refine ret2 ⟨xB, Sl.nil, ?_, fun hc => absurd hc.1 hb⟩
    rw [dec_neg fun hc : candOk xs ys d w => hb hc.1]
  have hul := candU_length xs ys d w
  have hLl := candL_length xs ys d w
  have hLd := candL_deg xs ys d w
  have mx : Mine B A.size x (candU xs ys d w) := mx
  have hxb := mx.bytes
  have hxlen := hxb.len
  have hxle := x.le
  have hxcap := mx.cap
  refine go ?_
  refine RegS.buildSlice fun B1 o1 y1 w1 => ?_
  have hxb1 := hxb.ext y1
  refine go ?_
  refine RegS.cut (d + 1 + w) x.len x.cap (.inr ⟨_, _, rfl, rfl⟩) (.inl ⟨rfl, rfl, rfl⟩) (.inl ⟨rfl, rfl⟩) ⟨by omega, hxle, Nat.le_refl _⟩ ?_
  have hcut := hxb1.cut (l := d + 1 + w) (h := x.len) (m := x.cap) ⟨by omega, hxle, Nat.le_refl _⟩ (by omega)
  have etk : (candU xs ys d w).take x.len = candU xs ys d w := List.take_of_length_le (by omega)
  rw [etk] at hcut
  have hdl : ((candU xs ys d w).drop (d + 1 + w)).length = w := by simp [hul]; omega
  refine go ?_
  refine RegS.append (f := B8) (l' := []) o1 hcut (fun _ => rfl) (by have := y1.size; omega) ?_ ?_ ?_
  · simp only [List.length_nil]; omega
  · simp only [List.length_nil]; omega
  intro p1 B2 p2 c2 b2
  have p2 : OwnF B8 B2 B.size 5 p1 ((candU xs ys d w).drop (d + 1 + w)) := p2
  have y2 : Ext B B2 := y1.then c2 fun z hz => (o1.blk_ge hz).1
  refine go ?_
  refine RegS.buildSlice fun B3 o3 y3 w3 => ?_
  have m3 : Mine B3 B2.size (Sl.fresh B2.size 1) [1] := OwnR.mine (e := 5) o3
  refine go ?_
  refine RegS.append (f := B8) (p2.ext y3) m3.bytes (fun _ => rfl) (by have := (y2.trans y3).size; omega) ?_ ?_ ?_
  · simp only [List.length_singleton]; omega
  · simp only [List.length_singleton]; omega
  intro lo B4 p4 c4 b4
  have p4 : OwnF B8 B4 B.size 5 lo (candL xs ys d w) := p4
  have y4 : Ext B B4 := (y2.trans y3).then c4 fun z hz => (p2.blk_ge hz).1
  have mlo := OwnR.mine p4
  have hxb4 := hxb.ext y4
  refine go ?_
  refine RegS.cut 0 (d + 1 + w) x.cap (.inl ⟨rfl, rfl⟩) (.inr ⟨_, _, rfl, rfl⟩) (.inl ⟨rfl, rfl⟩) ⟨Nat.zero_le _, by omega, Nat.le_refl _⟩ ?_
  have hcut2 := hxb4.cut (l := 0) (h := d + 1 + w) (m := x.cap) ⟨Nat.zero_le _, by omega, Nat.le_refl _⟩ (by omega)
  have hcut2 : Bytes B4 (x.cut 0 (d + 1 + w) x.cap) (candQ xs ys d w) := by simpa [candQ] using hcut2
  have hql : (candQ xs ys d w).length = d + 1 + w := by simp [candQ, hul]; omega
  refine go ?_
  have x4 := xB.trans y4
  refine RegS.call (divP_ok fb _ lo _ _ B4 (hF.ext x4) hcut2 mlo.bytes (by omega) (by omega)) ?_
  rintro _ B5 ⟨e5, h5⟩
  rw [if_neg (by omega)] at h5
  obtain ⟨a, b, rfl, ma, mb, _⟩ := h5
  have x5 := x4.trans e5
  have hb5 := mb.bytes
  have hrl := tl_length (divL (candQ xs ys d w) (candL xs ys d w)).2
  have hr0 := deg1_le (divL (candQ xs ys d w) (candL xs ys d w)).2
  have hq0 := deg1_le (divL (candQ xs ys d w) (candL xs ys d w)).1
  have hql1 := tl_length (divL (candQ xs ys d w) (candL xs ys d w)).1
  have hdll := divL_length (candQ xs ys d w) (candL xs ys d w)
  have hdd : deg1 (tl (divL (candQ xs ys d w) (candL xs ys d w)).1) = deg1 (divL (candQ xs ys d w) (candL xs ys d w)).1 := by rw [← tl_length (tl _), tl_tl, tl_length]
  have z4 := x4.size
  refine go ?_
  refine RegS.sp (fun hz => ?_) (fun hz => ?_) <;> refine go ?_
  · refine RegS.call (degree_ok a _ B5 ma.bytes (by omega)) ?_
    rintro _ _ ⟨rfl, rfl⟩
    rw [hdd]
    refine go ?_
    have hde : dec ((deg1 (divL (candQ xs ys d w) (candL xs ys d w)).1 : Int) - 1 ≤ (d : Int)) = dec (candOk xs ys d w) := dec_congr ⟨fun hle => ⟨hb, by omega, by omega⟩, fun hc => by
      have := hc.2.2
      omega⟩
    rw [hde]
    exact ret2 ⟨x5, a, rfl, fun _ => ma.low z4⟩
  · refine ret2 ⟨x5, a, ?_, fun hc => ?_⟩
    · rw [dec_neg fun hc : candOk xs ys d w => hz (by rw [hrl, hc.2.1])]
      rfl
    · exact absurd (by rw [hrl, hc.2.1]) hz
/-! ### Decode -/
def bwGood (xs ys : List UInt8) (d e : Int) (p : List UInt8) : Prop :=
  xs.length = ys.length ∧ xs.length ≤ 255 ∧ unlike xs ∧ 0 ≤ d ∧ d ≤ 255 ∧ 0 ≤ e ∧ e ≤ 255 ∧ tl p = p ∧ (deg1 p : Int) ≤ d + 1 ∧ ((wrongL p xs ys xs.length).length : Int) ≤ e ∧ ((wrongL p xs ys xs.length).length : Int) + d + 1 + e ≤ xs.length
theorem bwGood_one {xs ys p q : List UInt8} {d e : Int} (hp : bwGood xs ys d e p) (hq : bwGood xs ys d e q) : p = q := by
  obtain ⟨h1, h2, h3, h4, h5, h6, h7, p1, p2, p3, p4⟩ := hp
  obtain ⟨_, _, _, _, _, _, _, q1, q2, q3, q4⟩ := hq
  obtain ⟨n, rfl⟩ := Int.eq_ofNat_of_zero_le h4
  have := agree_two (n := n + 1) h3 (by omega) (by omega) (p := p) (q := q) (ys := ys) (by omega)
  rw [← p1, ← q1, this]
theorem bwGood_cand {xs ys p : List UInt8} {d e w : Nat} (hp : bwGood xs ys d e p) (hw : (w : Int) = min (e : Int) (xs.length - (d + 1 + e))) : candOk xs ys d w ∧ candP xs ys d w = p := by
  obtain ⟨h1, h2, h3, h4, h5, h6, h7, p1, p2, p3, p4⟩ := hp
  have := cand_back (d := d) (w := w) h3 (by omega) (p0 := p) (ys := ys) (by omega) (by omega)
  rw [p1] at this
  exact this
theorem cand_good {xs ys : List UInt8} {d e w : Nat} (h1 : xs.length = ys.length) (h2 : xs.length ≤ 255) (h3 : unlike xs) (hd : d ≤ 255) (he : e ≤ 255) (hw : (w : Int) = min (e : Int) (xs.length - (d + 1 + e))) (hc : candOk xs ys d w) (hl : (wrongL (candP xs ys d w) xs ys xs.length).length ≤ w) : bwGood xs ys d e (candP xs ys d w) := by
  refine ⟨h1, h2, h3, by omega, by omega, by omega, by omega, ?_, ?_, by omega, by omega⟩
  · unfold candP; rw [tl_tl]
  · have : deg1 (candP xs ys d w) = deg1 (divL (candQ xs ys d w) (candL xs ys d w)).1 := by unfold candP; rw [← tl_length (tl _), tl_tl, tl_length]
    have := hc.2.2
    omega
def BwO (H : Heap) (xs ys : List UInt8) (d e : Int) (v : Value) (H' : Heap) : Prop :=
  Ext H H' ∧ ((∃ (p : List UInt8) (s O : Sl), bwGood xs ys d e p ∧ v = .tuple #[s.val, O.val, .bool true] ∧ Mine H' H.size s p ∧ OwnF I64 H' H.size 3 O (wrongL p xs ys xs.length)) ∨
    ((∀ p, ¬ bwGood xs ys d e p) ∧ v = .tuple #[Sl.nil.val, Sl.nil.val, .bool false]))
theorem Rd.minI {C : Cx} {o : Oper} {L : Env} {H : Heap} {a b : Int} {k : IntKind} {x y : Operand} {ts : Array TypeId} (ho : o.op = .call { callee := .builtin .min, args := #[x, y], argTypes := ts }) (hx : L.ev x = some (.int k a)) (hy : L.ev y = some (.int k b)) : Rd C o L H (.int k (min a b)) :=
  Rd.of (by rw [ho]; rfl) fun act w ha ex => by
    have h1 := agr_of ha hx (by rw [ho]; simp [Op.operands, Call.operands])
    have h2 := agr_of ha hy (by rw [ho]; simp [Op.operands, Call.operands])
    simp [execOp, ho, resolve, invoke, builtin, h1, h2, Builtin.min_, Builtin.min2, Sem.run_bind, Result.andThen, Sem.run]
    omega
set_option maxHeartbeats 4000000 in
theorem bw_own (fb : Nat) (s r : Sl) (xs ys : List UInt8) (d e : Int) (H : Heap) (hF : IsField H fb) (hs : Bytes H s xs) (hr : Bytes H r ys) (hl : xs.length ≤ 140737488355328) :
    CallsH Tryz.prog 183 [fieldV fb, s.val, r.val, .int .i64 d, .int .i64 e] H (BwO H xs ys d e) := by
  refine CallsH.enter h183 Tryz.func183 rfl rfl rfl (by decide) fun u => go ?_
  have no : ∀ A, Ext H A → ¬ (xs.length = ys.length ∧ xs.length ≤ 255 ∧ unlike xs ∧ 0 ≤ d ∧ d ≤ 255 ∧ 0 ≤ e ∧ e ≤ 255) → BwO H xs ys d e (.tuple #[Sl.nil.val, Sl.nil.val, .bool false]) A := fun A x h => ⟨x, .inr ⟨fun p hp => h ⟨hp.1, hp.2.1, hp.2.2.1, hp.2.2.2.1, hp.2.2.2.2.1, hp.2.2.2.2.2.1, hp.2.2.2.2.2.2.1⟩, rfl⟩⟩
  refine RegS.sp (fun h1 => ?_) (fun h1 => ?_) <;> refine go ?_
  · exact ret3 (no H (Ext.refl _) (fun h => by omega))
  refine RegS.sp (fun h2 => ?_) (fun h2 => ?_) <;> refine go ?_
  · exact ret3 (no H (Ext.refl _) (fun h => by omega))
  refine RegS.call (unlikeB_ok s xs H hs (by omega)) ?_
  rintro _ H1 ⟨rfl, e1⟩
  by_cases h3 : unlike xs
  case neg =>
    rw [dec_neg h3]
    refine go ?_
    exact ret3 (no H1 e1 (fun h => h3 h.2.2.1))
  rw [dec_pos h3]
  refine go ?_
  refine RegS.call (within_ok d H1) ?_
  rintro _ _ ⟨rfl, rfl⟩
  by_cases h4 : 0 ≤ d ∧ d ≤ 255
  case neg =>
    rw [dec_neg h4]
    refine go ?_
    exact ret3 (no H1 e1 (fun h => h4 ⟨h.2.2.2.1, h.2.2.2.2.1⟩))
  rw [dec_pos h4]
  refine go ?_
  refine RegS.call (within_ok e H1) ?_
  rintro _ _ ⟨rfl, rfl⟩
  by_cases h5 : 0 ≤ e ∧ e ≤ 255
  case neg =>
    rw [dec_neg h5]
    refine go ?_
    exact ret3 (no H1 e1 (fun h => h5 ⟨h.2.2.2.2.2.1, h.2.2.2.2.2.2⟩))
  rw [dec_pos h5]
  clear no
  obtain ⟨d, rfl⟩ := Int.eq_ofNat_of_zero_le h4.1
  obtain ⟨e, rfl⟩ := Int.eq_ofNat_of_zero_le h5.1
  have hs1 := hs.ext e1
  have hr1 := hr.ext e1
  by_cases hge : d + 1 + e ≤ xs.length
  case neg =>
    refine go ?_
    refine RegS.rd rfl rfl (Rd.minI rfl rfl rfl) ?_
    refine go ?_
    refine ret3 ⟨e1, .inr ⟨fun p hp => ?_, rfl⟩⟩
    obtain ⟨_, _, _, _, _, _, _, _, _, _, h⟩ := hp
    omega
  refine go ?_
  have hwI : ((min e (xs.length - (d + 1 + e)) : Nat) : Int) = min (e : Int) (xs.length - (d + 1 + e)) := by omega
  generalize hw : min e (xs.length - (d + 1 + e)) = w at hwI
  refine go ?_
  refine RegS.call (candidate_ok fb s r xs ys d w H1 (hF.ext e1) hs1 hr1 (by omega) (by omega) (by omega) (by omega) (by omega)) ?_
  rintro _ H2 ⟨e2, pc, rfl, hp⟩
  have x2 := e1.trans e2
  refine go ?_
  refine Wp.br (fun hc => ?_) (fun hc => ?_)
  · refine go ?_
    refine ret3 ⟨x2, .inr ⟨fun p hg => hc (bwGood_cand hg hwI).1, rfl⟩⟩
  have hc : candOk xs ys d w := Classical.not_not.1 hc
  have mp := hp hc
  have hpl : (candP xs ys d w).length ≤ d + 1 := by
    unfold candP; rw [tl_length]; exact hc.2.2
  have hgood := cand_good (e := e) (d := d) (ys := ys) (xs := xs) (w := w) (by omega) (by omega) h3 (by omega) (by omega) hwI hc
  have hback := fun p hg => (bwGood_cand (xs := xs) (ys := ys) (p := p) (d := d) (e := e) (w := w) hg hwI).2
  generalize candP xs ys d w = p at mp hpl hgood hback
  have hs2 := hs.ext x2
  refine go ?_
  refine Wp.loop (ι := Nat × Sl) (fun i => [(0, fieldV fb), (2, r.val), (10, pc.val), (11, i.2.val), (13, I64 w), (63, s.val), (64, I64 xs.length), (65, I64 i.1)]) (fun i A => i.1 ≤ xs.length ∧ Ext H2 A ∧ OwnF I64 A H2.size 3 i.2 (wrongL p xs ys i.1)) (fun i => xs.length - i.1) (0, Sl.nil) subs ⟨Nat.zero_le _, Ext.refl _, OwnR.nil _ _ _ _⟩ ?_
  rintro ⟨k, O⟩ A ⟨hk, eA, hO⟩
  have hk : k ≤ xs.length := hk
  have hO : OwnF I64 A H2.size 3 O (wrongL p xs ys k) := hO
  have hsA := hs2.ext eA
  have hrA := hr.ext (x2.trans eA)
  have mA := mp.ext eA
  have hwl := wrongL_le p xs ys k
  have hsu := wrongL_succ p xs ys k
  refine go ?_
  refine Wp.br (fun h => ?_) (fun h => ?_)
  · have h : (k : Int) < (xs.length : Int) := h
    refine go ?_
    refine RegP.call (eval_ok fb pc p (xs.getD k 0) A (hF.ext (x2.trans eA)) mA.bytes (by omega)) ?_
    rintro _ A1 ⟨rfl, y1⟩
    refine ⟨.inl y1, ?_⟩
    refine go ?_
    refine Wp.br (fun hne => ?_) (fun hne => ?_) <;> refine go ?_
    · rw [if_pos hne] at hsu
      refine RegS.buildSlice fun A2 o2 y2 w2 => ?_
      have r2 : RowF I64 0 A2 (Sl.fresh A1.size 1) [k] := OwnR.rowF (e := 3) (l := [k]) o2
      have hz2 := (eA.trans (y1.trans y2)).size
      refine go ?_
      refine RegS.append (f := I64) (hO.ext (y1.trans y2)) r2 (fun _ => rfl) hz2 ?_ ?_ ?_
      · simp only [List.length_singleton]; omega
      · simp only [List.length_singleton]; omega
      intro O' A3 o3 c3 b3
      refine go ?_
      refine roundQ_n (k + 1, O') subs ⟨by simp only; omega, (eA.trans (y1.trans y2)).then c3 fun x hx => (hO.blk_ge hx).1, ?_⟩ (by simp only; omega)
      show OwnF I64 _ _ _ _ (wrongL p xs ys (k + 1))
      rw [hsu]
      exact o3
    · rw [if_neg hne] at hsu
      refine roundQ_n (k + 1, O) subs ⟨by simp only; omega, eA.trans y1, ?_⟩ (by simp only; omega)
      show OwnF I64 _ _ _ _ (wrongL p xs ys (k + 1))
      rw [hsu]
      exact hO.ext y1
  have h : ¬ (k : Int) < (xs.length : Int) := h
  have : k = xs.length := by omega
  subst this
  have hOr : RowF I64 0 A O (wrongL p xs ys xs.length) := hO.rowF
  refine go ?_
  refine Wp.br (fun hgt => ?_) (fun hgt => ?_) <;> refine go ?_
  · refine ret3 ⟨x2.trans eA, .inr ⟨fun q hg => ?_, rfl⟩⟩
    have := hback q hg
    subst this
    obtain ⟨_, _, _, _, _, _, _, _, _, g1, g2⟩ := hg
    omega
  · exact ret3 ⟨x2.trans eA, .inl ⟨p, pc, O, hgood (by omega), rfl, (mp.ext eA).low e1.size, hO.low (by have := x2.size; omega)⟩⟩
end Go.Proofs.YtaikdcnifijcoaaGreat
