/-
  The document's answers of layer 11, walked: what is found, by all choices; a holder's share.
-/
import Derived.Test.YtgmemfcfjlndoaaGreatVRef11
set_option linter.unusedVariables false
set_option linter.unusedSimpArgs false
namespace Go.Proofs.YtgmemfcfjlndoaaGreat
open Go Go.Vc Go.Gf

def RFindR (H : Heap) (N T K E : Nat) (cols : Int) (fl : List Int) (rows : List (List UInt8)) (v : Value) (H' : Heap) : Prop :=
  Ext H H' ∧ ((∃ (hs : List Nat) (qs : List (List UInt8)) (a w : Sl) (ss : List Sl), isFound N T K E cols fl rows hs qs ∧ v = .tuple #[a.val, w.val, .bool true] ∧ BRows H' a ss qs ∧ RowF I64 0 H' w (offs N hs rows qs)) ∨
    ((∀ hs qs, ¬ isFound N T K E cols fl rows hs qs) ∧ v = .tuple #[Sl.nil.val, Sl.nil.val, .bool false]))
theorem pick_good {xs ys : List UInt8} {d e : Nat} (hl : xs.length = ys.length) (hu : unlike xs) (hn : xs.length ≤ 255) (hd : d ≤ 255) (he : e ≤ 255) (hen : e ≤ xs.length) {l : List Nat} (hm : l ∈ pk (d + 1) xs.length)
    (ha : max (d + 1 + e) (xs.length - e) ≤ agN (pickP xs ys l) xs ys xs.length) : bwGood xs ys d e (pickP xs ys l) := by
  have h1 := pickP_len (xs := xs) (ys := ys) l
  have h2 := (pk_each _ _ l hm).1
  have h3 := deg1_le (pickP xs ys l)
  have h4 := wrongL_cnt (pickP xs ys l) xs ys xs.length
  exact ⟨hl, by omega, hu, by omega, by omega, by omega, by omega, pickP_tl _ _ _, by omega, by omega, by omega⟩
theorem good_pick {xs ys p : List UInt8} {d e : Nat} (hu : unlike xs) (hg : bwGood xs ys d e p) : ∃ l ∈ pk (d + 1) xs.length, pickP xs ys l = p ∧ max (d + 1 + e) (xs.length - e) ≤ agN p xs ys xs.length := by
  obtain ⟨_, _, _, _, _, _, _, g8, g9, g10, g11⟩ := hg
  have h4 := wrongL_cnt p xs ys xs.length
  obtain ⟨l, hl, he⟩ := pick_found (d := d) hu (p := p) (ys := ys) (by omega) (by omega)
  exact ⟨l, hl, by rw [he, g8], by omega⟩
set_option maxHeartbeats 8000000 in
theorem rfind_ok (N T K E R : Nat) (cols : Int) (s r : Sl) (rs : List Sl) (fl : List Int) (rows : List (List UInt8)) (H : Heap) (hs : RowF IV 0 H s fl) (hr : BRows H r rs rows) (hl : fl.length ≤ 9) (hT0 : 1 ≤ T) (hT : T ≤ 255) (hK : K ≤ 255) (hE : E ≤ 255) (hN : N ≤ 255) (hc : cols ≤ 1000) (hd : T + K ≤ 256) :
    CallsH Tryz.prog 16 [pmV N T K E R, IV cols, s.val, r.val] H (RFindR H N T K E cols fl rows) := by
  refine CallsH.enter h16 Tryz.func16 rfl rfl rfl (by decide) fun u => go ?_
  refine RegS.boxA fun H0 x0 z0 b0 => ?_
  have hs0 := hs.ext x0
  have hr0 := hr.ext x0
  refine go ?_
  refine RegS.call (renough_ok N T K E R cols s r rs fl rows H0 hs0 hr0 (by omega) hT hK hE) ?_
  rintro _ H1 ⟨rfl, x1⟩
  by_cases he : enoughP N (T + K + E) cols fl rows
  case neg =>
    rw [dec_neg he]
    refine go ?_
    exact ret3 ⟨x0.trans x1, .inr ⟨fun hs qs k => he k.2.2.1, rfl⟩⟩
  rw [dec_pos he]
  have b1 := b0.ext x1
  have x01 := x0.trans x1
  obtain ⟨hs', rfl, hfew⟩ := enough_few he
  obtain ⟨he1, he2, he3, he4⟩ := id he
  rw [List.length_map] at he1 he2 he4 hl
  have hle := hfew.le
  obtain ⟨n, rfl⟩ := Int.eq_ofNat_of_zero_le he3
  have hs1 := rowF_nat (hs0.ext x1)
  have hr1 := hr0.ext x1
  have hcl : ∀ k, k < rows.length → (rows.getD k []).length = n := fun k hk => by have := (he4 k (by omega)).2.2.2; omega
  refine go ?_
  refine RegS.call (xs_ok s hs' H1 hs1 (by omega) (fun i hi => by have := hfew.lt i hi; omega)) ?_
  rintro _ H2 ⟨sp, rfl, mp, x2⟩
  have b2 := b1.ext x2
  have hs2 := hs1.ext x2
  have hr2 := hr1.ext x2
  have x02 := x01.trans x2
  have hpl := ptsN_length hs'
  have hun := hfew.unlike hN
  have hxp := mp.bytes
  refine go ?_
  refine RegS.makeSlice (n := N) ?_ ?_ fun H3 o3 e3 z3 => ?_
  · omega
  · omega
  have o3' : OwnF Value.bool H3 H2.size 4 (Sl.fresh H2.size N) (List.replicate N false) := by
    rw [OwnF, List.map_replicate]; exact o3
  generalize Sl.fresh H2.size N = t at o3'
  have htb : ∀ b, t.blk = some b → b < H3.size := fun b hb => (o3'.blk_ge hb).2
  have b3 := b2.ext e3
  clear o3 hs0 hr0 b0 b1
  refine go ?_
  refine Wp.loop (ι := Nat × Sl × List Sl × List (List UInt8) × List Bool)
    (fun i => [(1, I64 n), (2, s.val), (3, r.val), (4, .pointer (some ⟨H.size, 0, none⟩)), (11, sp.val), (12, i.2.1.val), (13, t.val), (14, I64 (T + K - 1)), (15, I64 i.1)])
    (fun i A => i.1 ≤ n ∧ i.2.2.2.1.length = i.1 ∧ (∀ c, c < i.1 → bwGood (ptsN hs') (colN rows c) ((T + K - 1 : Nat) : Int) (E : Int) (i.2.2.2.1.getD c [])) ∧ Mat A H3.size 36 i.2.1 i.2.2.1 i.2.2.2.1 ∧ OwnF Value.bool A H2.size 4 t i.2.2.2.2 ∧ Tells i.2.2.2.2 N (Off hs' rows i.2.2.2.1) ∧ H3.size ≤ A.size ∧ Ext H2 A)
    (fun i => n - i.1) (0, Sl.nil, [], [], List.replicate N false) subs ⟨Nat.zero_le _, rfl, fun c h => absurd h (by omega), Mat.nil _ _ _, o3', (tells_none N).same fun h _ => ⟨fun ⟨c, hc, _⟩ => absurd hc (by simp), False.elim⟩, Nat.le_refl _, e3⟩ ?_
  rintro ⟨c, a, ss, qs, bl⟩ A ⟨hcn, hql, hgood, hM, hB, hTl, hAsz, eA⟩
  have hcn : c ≤ n := hcn
  have hql : qs.length = c := hql
  have hgood : ∀ c', c' < c → bwGood (ptsN hs') (colN rows c') ((T + K - 1 : Nat) : Int) (E : Int) (qs.getD c' []) := hgood
  have hM : Mat A H3.size 36 a ss qs := hM
  have hB : OwnF Value.bool A H2.size 4 t bl := hB
  have hTl : Tells bl N (Off hs' rows qs) := hTl
  have bA := b2.ext eA
  have hsA := hs2.ext eA
  have hrA := hr2.ext eA
  have xpA := hxp.ext eA
  have zA := eA.size
  have xA := x02.trans eA
  have hml := hM.len
  show Wp _ _ _ [(1, I64 n), (2, s.val), (3, r.val), (4, .pointer (some ⟨H.size, 0, none⟩)), (11, sp.val), (12, a.val), (13, t.val), (14, I64 (T + K - 1)), (15, I64 c)] _ _
  refine go ?_
  refine Wp.br (fun hlt => ?_) (fun hlt => ?_)
  case refine_2 =>
    have hlt : ¬ (c : Int) < (n : Int) := hlt
    have : c = n := by omega
    subst this
    have rB := OwnR.rowF (f := Value.bool) (dd := false) hB
    have hbl := hTl.1
    refine go ?_
    refine Wp.loop (ι := Nat × Sl) (fun i => [(4, .pointer (some ⟨H.size, 0, none⟩)), (12, a.val), (13, t.val), (22, i.2.val), (23, I64 i.1)]) (fun i B => i.1 ≤ N ∧ OwnF I64 B A.size 3 i.2 (offs i.1 hs' rows qs) ∧ Ext A B) (fun i => N - i.1) (0, Sl.nil) subs ⟨Nat.zero_le _, OwnR.nil _ _ _ _, Ext.refl _⟩ ?_
    rintro ⟨h, w⟩ B ⟨hh, hw, eB⟩
    have hh : h ≤ N := hh
    have hw : OwnF I64 B A.size 3 w (offs h hs' rows qs) := hw
    have bB := bA.ext eB
    have rBB := rB.ext eB
    have zB := eB.size
    have hol := offs_len h hs' rows qs
    obtain ⟨q1, q2⟩ := offs_succ h hs' rows qs
    show Wp _ _ _ [(4, .pointer (some ⟨H.size, 0, none⟩)), (12, a.val), (13, t.val), (22, w.val), (23, I64 h)] _ _
    refine go ?_
    refine Wp.br (fun hlt => ?_) (fun hlt => ?_)
    case refine_2 =>
      have hlt : ¬ (h : Int) < (N : Int) := hlt
      have : h = N := by omega
      subst this
      refine go ?_
      exact ret3 ⟨xA.trans eB, .inl ⟨hs', qs, a, w, ss, ⟨rfl, hfew, he, ⟨by simpa using hql, fun c' hc' => hgood c' (by simpa using hc')⟩⟩, rfl, (hM.ext eB).brows, hw.rowF⟩⟩
    have hlt : (h : Int) < (N : Int) := hlt
    have htl := hTl.2 h (by omega)
    refine go ?_
    refine Wp.brB (fun hb => ?_) (fun hb => ?_) <;> refine go ?_
    · have q1 := q1 (htl.1 hb)
      refine RegS.buildSlice fun A4 o4 y4 w4 => ?_
      have r4 : RowF I64 0 A4 (Sl.fresh B.size 1) [h] := OwnR.rowF (f := I64) (l := [h]) o4
      have z4 := y4.size
      refine go ?_
      refine RegS.append (f := I64) (hw.ext y4) r4 (fun _ => rfl) (by omega) ?_ ?_ ?_
      · simp only [List.length_singleton]; omega
      · simp only [List.length_singleton]; omega
      intro w' A5 o5 c5 b5
      refine go ?_
      refine roundQ_n (h + 1, w') subs ⟨by simp only; omega, ?_, (eB.trans y4).then c5 fun x hx => (hw.blk_ge hx).1⟩ (by simp only; omega)
      show OwnF I64 _ _ _ _ (offs (h + 1) hs' rows qs)
      rw [q1]; exact o5
    · have q2 := q2 fun k => by rw [htl.2 k] at hb; exact absurd hb (by simp)
      refine roundQ_n (h + 1, w) subs ⟨by simp only; omega, ?_, eB⟩ (by simp only; omega)
      show OwnF I64 _ _ _ _ (offs (h + 1) hs' rows qs)
      rw [q2]; exact hw
  have hlt : (c : Int) < (n : Int) := hlt
  refine go ?_
  refine RegS.call (rcolumn_ok r rs rows c A hrA (by omega) (fun k hk => by rw [hcl k hk]; omega)) ?_
  rintro _ A1 ⟨sy, rfl, my, y1⟩
  have bA1 := bA.ext y1
  have xp1 := xpA.ext y1
  have hyl := colN_length rows c
  have ysy := my.bytes
  have agr : ∀ m : Nat, m = max ((T + K - 1) + 1 + E) ((ptsN hs').length - E) → CallsH Tryz.prog 62 [sp.val, sy.val, I64 (T + K - 1), I64 m] A1 (AgR A1 (ptsN hs') (colN rows c) (T + K - 1) (max ((T + K - 1) + 1 + E) ((ptsN hs').length - E))) := fun m e => by
    subst e; exact agreed_ok sp sy _ _ _ _ A1 xp1 ysy (by omega) (by omega) (by omega)
  refine go ?_
  refine Wp.br (fun hgt => ?_) (fun hgt => ?_) <;> refine go ?_
  all_goals
    refine RegS.call (agr _ ?_) ?_
    · omega
    rintro _ A2 ⟨y2, ⟨l, q, hlm, ha, rfl, mq⟩ | ⟨hno, rfl⟩⟩
    case inr =>
      refine go ?_
      refine ret3 ⟨xA.trans (y1.trans y2), .inr ⟨fun hs qs' k => ?_, rfl⟩⟩
      have e : hs = hs' := by rw [k.hs, List.map_map]; simp [Function.comp_def]
      subst e
      obtain ⟨l, hlm, e1, e2⟩ := good_pick hun (k.2.2.2.good c (by simp; omega))
      have := hno l hlm
      rw [e1] at this
      omega
    have hg := pick_good (d := T + K - 1) (e := E) (hpl.trans (by omega)) hun (by omega) (by omega) hE (by omega) hlm ha
    generalize pickP (ptsN hs') (colN rows c) l = p at hg mq
    have hpn : p.length ≤ 256 := by
      have h1 := hg.2.2.2.2.2.2.2.1
      have h2 := hg.2.2.2.2.2.2.2.2.1
      rw [← h1, tl_length]; omega
    have zy1 := y1.size
    have zy2 := y2.size
    have hab : ∀ b, a.blk = some b → H3.size ≤ b ∧ b < A.size := fun b hb => hM.arr.blk_ge hb
    refine go ?_
    refine RegS.buildSlice fun A3 o3 y3 w3 => ?_
    have r3 : RowF Sl.val Sl.nil A3 (Sl.fresh A2.size 1) [q] := OwnR.rowF (f := Sl.val) (l := [q]) o3
    have y13 := (y1.trans y2).trans y3
    have hM3 := hM.ext y13
    have z13 := y13.size
    refine go ?_
    refine RegS.append (f := Sl.val) hM3.arr r3 (fun _ => rfl) (by omega) ?_ ?_ ?_
    · simp only [List.length_singleton]; omega
    · simp only [List.length_singleton]; omega
    intro a' A4 o4 c4 b4
    have hM4 := Mat.app (S := fun _ => False) hM3 ((mq.ext y3).low (by omega)) (fun j x hj hx hx' => by have := ((hM.each j hj).blk x hx).2; have := (mq.blk x hx').1; omega) (fun x hx hx' => by have := (hM.arr.blk_ge hx').2; have := (mq.blk x hx).1; omega) o4 c4 b4
    have mq4 : Mine A4 A1.size q p := (mq.ext y3).chg c4 fun b hb hb' => by have := (mq.blk b hb).1; have := (hab b hb').2; omega
    have my4 : Mine A4 A.size sy (colN rows c) := ((my.ext y2).ext y3).chg c4 fun b hb hb' => by have := (my.blk b hb).1; have := (hab b hb').2; omega
    have hB4 : OwnF Value.bool A4 H2.size 4 t bl := (hB.ext y13).chg c4 fun b hb hb' => by have := htb b hb; have := (hab b hb').1; omega
    have e4 : Ext H2 A4 := (eA.trans y13).then c4 fun x hx => by have := (hab x hx).1; have := e3.size; omega
    have z4 := c4.size
    have bA4 := b2.ext e4
    have hwl := wrongL_le p (ptsN hs') (colN rows c) (ptsN hs').length
    refine go ?_
    refine RegS.call (wrong_own q sp sy p (ptsN hs') (colN rows c) A4 mq4.bytes (hxp.ext e4) my4.bytes (by omega) (by omega) (by omega)) ?_
    rintro _ A5 ⟨O, rfl, oO, y5⟩
    have hM5 := hM4.ext y5
    have hB5 := hB4.ext y5
    have e5 := e4.trans y5
    have z5 := y5.size
    have hwm : ∀ k, k < (wrongL p (ptsN hs') (colN rows c) (ptsN hs').length).length → (wrongL p (ptsN hs') (colN rows c) (ptsN hs').length).getD k 0 < (ptsN hs').length := fun k hk => (wrongL_lt (mem_getD.2 ⟨k, hk, rfl⟩)).1
    have hsn := off_snoc (hs := hs') (rows := rows) (qs := qs) (p := p) (by omega)
    rw [hql, ← hpl] at hsn
    generalize wrongL p (ptsN hs') (colN rows c) (ptsN hs').length = wl at oO hwm hsn hwl
    refine go ?_
    refine Wp.loop (ι := Nat × List Bool) (fun i => [(1, I64 n), (2, s.val), (3, r.val), (4, .pointer (some ⟨H.size, 0, none⟩)), (11, sp.val), (12, a'.val), (13, t.val), (14, I64 (T + K - 1)), (15, I64 c), (20, O.val), (21, I64 i.1)])
      (fun i B => i.1 ≤ wl.length ∧ OwnF Value.bool B H2.size 4 t i.2 ∧ Tells i.2 N (fun h => Off hs' rows qs h ∨ ∃ k, k < i.1 ∧ hs'.getD (wl.getD k 0) 0 = h) ∧ Chg (fun b => t.blk = some b) A5 B) (fun i => wl.length - i.1) (0, bl) subs ⟨Nat.zero_le _, hB5, hTl.same fun h _ => ⟨fun k => k.elim id fun ⟨_, hk, _⟩ => absurd hk (by omega), .inl⟩, Chg.refl _ _⟩ ?_
    rintro ⟨j, bl'⟩ B ⟨hj, hBB, hTB, cB⟩
    have hj : j ≤ wl.length := hj
    have hBB : OwnF Value.bool B H2.size 4 t bl' := hBB
    have hTB : Tells bl' N (fun h => Off hs' rows qs h ∨ ∃ k, k < j ∧ hs'.getD (wl.getD k 0) 0 = h) := hTB
    have eB : Ext H2 B := e5.then cB fun x hx => (hBB.blk_ge hx).1
    have oOB : OwnF I64 B A4.size 3 O wl := oO.chg cB fun b hb hb' => by have := (oO.blk_ge hb).1; have := htb b hb'; omega
    have rO := OwnR.rowF (f := I64) (dd := 0) oOB
    have rBB := OwnR.rowF (f := Value.bool) (dd := false) hBB
    have hsB := hs2.ext eB
    have hbl := hTB.1
    have zB := cB.size
    show Wp _ _ _ [(1, I64 n), (2, s.val), (3, r.val), (4, .pointer (some ⟨H.size, 0, none⟩)), (11, sp.val), (12, a'.val), (13, t.val), (14, I64 (T + K - 1)), (15, I64 c), (20, O.val), (21, I64 j)] _ _
    refine go ?_
    refine Wp.br (fun hlt => ?_) (fun hlt => ?_)
    case refine_2 =>
      have hlt : ¬ (j : Int) < (wl.length : Int) := hlt
      have : j = wl.length := by omega
      subst this
      refine go ?_
      refine roundQ_n (c + 1, a', ss ++ [q], qs ++ [p], bl') subs ⟨by simp only; omega, by simp [hql], fun c' hc' => ?_, ?_, hBB, ?_, by omega, eB⟩ (by simp only; omega)
      · have hc' : c' < c + 1 := hc'
        show bwGood _ _ _ _ ((qs ++ [p]).getD c' [])
        rw [getD_snoc hql (by omega)]
        split
        · exact hgood c' (by assumption)
        · have : c' = c := by omega
          subst this; exact hg
      · exact hM5.chg cB fun b hb _ hb' => by have := htb b hb'; omega
      · refine hTB.same fun h _ => (hsn h).trans ?_
        refine or_congr_right ?_
        constructor
        · rintro ⟨i, hi, e⟩
          obtain ⟨k, hk, rfl⟩ := (mem_getD (d := 0)).1 hi
          exact ⟨k, hk, e⟩
        · rintro ⟨k, hk, e⟩
          exact ⟨_, mem_getD.2 ⟨k, hk, rfl⟩, e⟩
    have hlt : (j : Int) < (wl.length : Int) := hlt
    have hx1 := hwm j (by omega)
    have hx2 := hfew.lt (wl.getD j 0) (by omega)
    refine go ?_
    refine RegS.store (OwnF.wrd (d := false) hBB (j := hs'.getD (wl.getD j 0) 0) (by omega)) ?_
    refine go ?_
    obtain ⟨o6, c6⟩ := OwnR.set hBB (j := hs'.getD (wl.getD j 0) 0) (by rw [List.length_map]; omega) (Value.bool true)
    rw [← List.map_set] at o6
    refine roundQ_n (j + 1, bl'.set (hs'.getD (wl.getD j 0) 0) true) subs ⟨by simp only; omega, o6, ?_, cB.trans c6⟩ (by simp only; omega)
    refine hTB.put hx2 fun h _ => ?_
    constructor
    · rintro (k | ⟨k, hk, e⟩)
      · exact .inl (.inl k)
      · by_cases e' : k = j
        · subst e'; exact .inr e.symm
        · exact .inl (.inr ⟨k, by omega, e⟩)
    · rintro ((k | ⟨k, hk, e⟩) | e)
      · exact .inl k
      · exact .inr ⟨k, by omega, e⟩
      · exact .inr ⟨j, by omega, e.symm⟩
end Go.Proofs.YtgmemfcfjlndoaaGreat
