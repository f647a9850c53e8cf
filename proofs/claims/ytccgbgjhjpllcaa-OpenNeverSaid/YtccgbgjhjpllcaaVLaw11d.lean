/-
  The laws of layer 11, walked: shares that were turned.
-/
import Derived.Test.YtccgbgjhjpllcaaVLaw11
import Derived.Test.YtccgbgjhjpllcaaVcMem
import Derived.Test.YtccgbgjhjpllcaaVRef10b
set_option linter.unusedVariables false
set_option linter.unusedSimpArgs false
namespace Go.Proofs.Ytccgbgjhjpllcaa
open Go Go.Vc Go.Gf

theorem xorS_nil (a : List UInt8) : xorS a [] = a := ext0 (xorS_length _ _) fun k hk => by
  rw [xorS_length] at hk
  rw [xorS, mk_getD, if_pos hk]
  simp
/-- A share, turned. -/
def tnL (P : List (List UInt8)) (turn : List (List UInt8)) (h : Nat) : List UInt8 := xorS (shareL P h) (turn.getD h [])
theorem tnL_length (P turn : List (List UInt8)) (h : Nat) : (tnL P turn h).length = P.length := by rw [tnL, xorS_length, shareL_length]
def keepB (skip : List Bool) (h : Nat) : Bool := !(skip.getD h false)
def fromTo (skip : List Bool) (h : Nat) : List Nat := (List.range h).filter (keepB skip)
theorem fromTo_no {skip : List Bool} {h : Nat} (hk : skip.getD h false = true) : fromTo skip (h + 1) = fromTo skip h := by
  unfold fromTo; rw [List.range_succ, List.filter_append]; simp [keepB, ← List.getD_eq_getElem?_getD, hk]
theorem fromTo_yes {skip : List Bool} {h : Nat} (hk : skip.getD h false = false) : fromTo skip (h + 1) = fromTo skip h ++ [h] := by
  unfold fromTo; rw [List.range_succ, List.filter_append]; simp [keepB, ← List.getD_eq_getElem?_getD, hk]
theorem fromTo_le (skip : List Bool) (h : Nat) : (fromTo skip h).length ≤ h := by
  have := List.length_filter_le (keepB skip) (List.range h)
  rwa [List.length_range] at this
def wantTo (P turn : List (List UInt8)) (skip : List Bool) (h : Nat) : List Nat := (fromTo skip h).filter (turned P (tnL P turn))
theorem wantTo_le (P turn : List (List UInt8)) (skip : List Bool) (h : Nat) : (wantTo P turn skip h).length ≤ (fromTo skip h).length := List.length_filter_le _ _
theorem wantTo_no {P turn : List (List UInt8)} {skip : List Bool} {h : Nat} (hk : skip.getD h false = true) : wantTo P turn skip (h + 1) = wantTo P turn skip h := by
  unfold wantTo; rw [fromTo_no hk]
theorem wantTo_yes {P turn : List (List UInt8)} {skip : List Bool} {h : Nat} (hk : skip.getD h false = false) :
    (tnL P turn h ≠ shareL P h → wantTo P turn skip (h + 1) = wantTo P turn skip h ++ [h]) ∧ (¬ tnL P turn h ≠ shareL P h → wantTo P turn skip (h + 1) = wantTo P turn skip h) := by
  unfold wantTo
  rw [fromTo_yes hk, List.filter_append]
  constructor
  · intro h'; simp [turned, h']
  · intro h'; simp [turned, Classical.not_not.1 h']
theorem countP_filter_len (l : List Nat) (p : Nat → Bool) : l.countP p = (l.filter p).length := List.countP_eq_length_filter
theorem rowF_int {H : Heap} {s : Sl} {hs : List Nat} (h : RowF I64 0 H s hs) : RowF IV 0 H s (hs.map fun (n : Nat) => (n : Int)) :=
  ⟨by rw [h.len, List.length_map], fun j hj => by
    rw [List.length_map] at hj
    rw [h.cell j hj]
    simp [List.getD_eq_getElem?_getD, hj]⟩
/-- A share that was just read or made: where it lies. -/
structure Loose (A : Heap) (w f a x : Sl) (l : List UInt8) : Prop where
  bytes : Bytes A x l
  lt : ∀ b, x.blk = some b → b < A.size ∧ w.blk ≠ some b ∧ f.blk ≠ some b ∧ a.blk ≠ some b
section
variable {A A' : Heap} {base : Nat} {e : TypeId} {w f a x : Sl} {wl fl : List Nat} {ss : List Sl} {m : List (List UInt8)} {l : List UInt8}
theorem Loose.ext (h : Loose A w f a x l) (y : Ext A A') : Loose A' w f a x l := ⟨h.bytes.ext y, fun b hb => ⟨Nat.lt_of_lt_of_le (h.lt b hb).1 y.size, (h.lt b hb).2⟩⟩
theorem Loose.addw {w' : Sl} (h : Loose A w f a x l) (c : Chg (fun b => w.blk = some b) A A') (hb : w'.blk = w.blk ∨ ∃ b, w'.blk = some b ∧ A.size ≤ b) : Loose A' w' f a x l :=
  ⟨h.bytes.chg c fun b k => ⟨(h.lt b k).1, (h.lt b k).2.1⟩, fun b k => ⟨Nat.lt_of_lt_of_le (h.lt b k).1 c.size, new_ne hb (h.lt b k).2.1 (h.lt b k).1, (h.lt b k).2.2⟩⟩
theorem Loose.addf {f' : Sl} (h : Loose A w f a x l) (c : Chg (fun b => f.blk = some b) A A') (hb : f'.blk = f.blk ∨ ∃ b, f'.blk = some b ∧ A.size ≤ b) : Loose A' w f' a x l :=
  ⟨h.bytes.chg c fun b k => ⟨(h.lt b k).1, (h.lt b k).2.2.1⟩, fun b k => ⟨Nat.lt_of_lt_of_le (h.lt b k).1 c.size, (h.lt b k).2.1, new_ne hb (h.lt b k).2.2.1 (h.lt b k).1, (h.lt b k).2.2.2⟩⟩
/-- What is of old lies apart from what grows. -/
theorem tri_old (h : Tri A base e w f a wl fl ss m) (hx : Bytes A x l) (hb : ∀ b, x.blk = some b → b < base) (hs : base ≤ A.size) : Loose A w f a x l :=
  ⟨hx, fun b k => ⟨by have := hb b k; omega, fun k' => by have := hb b k; have := (h.wr.blk_ge k').1; omega, fun k' => by have := hb b k; have := (h.fr.blk_ge k').1; omega, fun k' => by have := hb b k; have := (h.ar.blk_ge k').1; omega⟩⟩
theorem tri_new (h : Tri A base e w f a wl fl ss m) (hx : Mine A' A.size x l) : Loose A' w f a x l :=
  ⟨hx.bytes, fun b k => ⟨(hx.blk b k).2, fun k' => by have := (hx.blk b k).1; have := (h.wr.blk_ge k').2; omega, fun k' => by have := (hx.blk b k).1; have := (h.fr.blk_ge k').2; omega, fun k' => by have := (hx.blk b k).1; have := (h.ar.blk_ge k').2; omega⟩⟩
end
set_option maxHeartbeats 8000000 in
theorem openCorrects_ok (N T K E R : Int) (s r k t : Sl) (tt : List Sl) (data rnd : List UInt8) (skip : List Bool) (turn : List (List UInt8)) (H : Heap) (hs : Bytes H s data) (hr : Bytes H r rnd) (hk : RowF Value.bool false H k skip) (ht : BRows H t tt turn)
    (hl1 : data.length ≤ 140737488351232) (hl2 : rnd.length ≤ 140737488351232) (hl3 : skip.length ≤ 9223372036854775807) (hl4 : turn.length * 24 ≤ 140737488351232)
    (hp : ∀ x ∈ [N, T, K, E, R], -9223372036854775808 ≤ x ∧ x ≤ 9223372036854775807) : CallsH Try.prog 5 [pmI N T K E R, s.val, r.val, k.val, t.val] H (Fine H) := by
  refine CallsH.enter h5 Try.func5 rfl rfl rfl (by decide) fun u => go ?_
  refine RegS.boxA fun H0 x0 z0 b0 => ?_
  refine go ?_
  refine RegP.call (good_ok N T K E R H0) ?_
  rintro _ H1 ⟨rfl, x1⟩
  refine ⟨.inl x1, ?_⟩
  have b1 := b0.ext x1
  have x01 := x0.trans x1
  have hs1 := hs.ext x01
  have hr1 := hr.ext x01
  have hk1 := hk.ext x01
  have ht1 := ht.ext x01
  by_cases hg : GoodP N T K E R
  case neg =>
    rw [dec_neg hg]
    refine go ?_
    refine RegP.skE ?_
    refine go ?_
    refine RegS.call (out11 x01) ?_
    rintro _ H3 ⟨rfl, e3⟩
    refine go ?_
    exact ret1 ⟨rfl, e3⟩
  rw [dec_pos hg]
  obtain ⟨g1, g2, g3, g4, g5, g6, g7⟩ := hg
  have q0 := g1 0 (by omega)
  have q1 := g1 1 (by omega)
  have q2 := g1 2 (by omega)
  have q3 := g1 3 (by omega)
  simp only [List.getD_cons_zero, List.getD_cons_succ] at q0 q1 q2 q3
  obtain ⟨N, rfl⟩ := Int.eq_ofNat_of_zero_le q0.1
  obtain ⟨T, rfl⟩ := Int.eq_ofNat_of_zero_le q1.1
  obtain ⟨K, rfl⟩ := Int.eq_ofNat_of_zero_le q2.1
  obtain ⟨E, rfl⟩ := Int.eq_ofNat_of_zero_le q3.1
  obtain ⟨R, rfl⟩ := Int.eq_ofNat_of_zero_le (show 0 ≤ R by omega)
  clear g1 hp
  have hcle := columns_le (size := data.length) (K := K) (by omega)
  refine go ?_
  by_cases h1 : ((30 : Nat) : Int) < (N : Int)
  · rw [dec_pos h1]
    refine go ?_
    refine RegP.skE ?_
    refine go ?_
    refine RegS.call (out11 x01) ?_
    rintro _ H3 ⟨rfl, e3⟩
    refine go ?_
    exact ret1 ⟨rfl, e3⟩
  rw [dec_neg h1]
  refine go ?_
  by_cases h2 : ((30 : Nat) : Int) < (data.length : Int)
  · rw [dec_pos h2]
    refine go ?_
    refine RegP.skE ?_
    refine go ?_
    refine RegS.call (out11 x01) ?_
    rintro _ H3 ⟨rfl, e3⟩
    refine go ?_
    exact ret1 ⟨rfl, e3⟩
  rw [dec_neg h2]
  refine go ?_
  refine RegP.call (rcolumns_ok data.length K H1 (by omega) (by omega) (by omega)) ?_
  rintro _ _ ⟨rfl, rfl⟩
  refine ⟨.inl (Ext.refl _), ?_⟩
  have hmul : T * columns data.length K ≤ 255 * 30 := Nat.mul_le_mul (by omega) (by omega)
  have hmul2 : T * columns data.length K ≤ 9223372036854775807 := by omega
  refine go ?_
  refine Wp.br (fun h3 => ?_) (fun h3 => ?_)
  · refine go ?_
    refine RegS.call (out11 x01) ?_
    rintro _ H3 ⟨rfl, e3⟩
    refine go ?_
    exact ret1 ⟨rfl, e3⟩
  have hrl : rnd.length = T * columns data.length K := by
    have : ¬ ((rnd.length : Nat) : Int) ≠ ((T * columns data.length K : Nat) : Int) := h3
    omega
  refine go ?_
  refine RegP.call (rpolys_ok N T K E R s r data rnd H1 hs1 hr1 (by omega) (by omega) (by omega) (by omega) hrl) ?_
  rintro _ H2 ⟨sP, ssP, rfl, RP, x2⟩
  refine ⟨.inl x2, ?_⟩
  have hPl := polysL_length N T K data rnd
  have hPd : ∀ c, c < (polysL N T K data rnd).length → ((polysL N T K data rnd).getD c []).length ≤ 1000 := fun c hc => by
    rw [← polysL_tl (by omega), tl_length]
    have := polysL_deg (N := N) (T := T) (K := K) (data := data) (rnd := rnd) (c := c) (by omega) (by omega)
    omega
  have hdoc : docL N K data.length (polysL N T K data rnd) = data := docL_polys (by omega) (by omega)
  have hcor := @corrects_found N T K E data rnd (keepB skip) (tnL (polysL N T K data rnd) turn)
  have hoff := @corrects_offs N T K data rnd (keepB skip) (tnL (polysL N T K data rnd) turn)
  have htl : ∀ h, h < N → (tnL (polysL N T K data rnd) turn h).length = columns data.length K := fun h _ => by rw [tnL_length, hPl]
  generalize polysL N T K data rnd = P at RP hPl hPd hdoc hcor hoff htl
  refine go ?_
  refine RegP.call (rshares_ok N T K E R sP ssP P H2 RP.brows (by omega) (by omega) hPd) ?_
  rintro _ H3 ⟨al, ssA, rfl, RA, x3⟩
  refine ⟨.inl x3, ?_⟩
  have x23 := x2.trans x3
  have x03 := x01.trans x23
  have b3 := b1.ext x23
  have hk3 := hk1.ext x23
  have ht3 := ht1.ext x23
  have hs3 := hs1.ext x23
  have hla := RA.li.len
  rw [sharesL_length] at hla
  clear RP b0 b1 hs1 hr1 hk1 ht1 x1 x0
  refine go ?_
  refine Wp.loop (ι := Nat × Sl × Sl × Sl × List Sl) (fun i => [(1, s.val), (3, k.val), (4, t.val), (5, .pointer (some ⟨H.size, 0, none⟩)), (11, al.val), (12, i.2.2.1.val), (13, i.2.1.val), (14, i.2.2.2.1.val), (15, I64 i.1)])
    (fun i A => i.1 ≤ N ∧ Tri A H3.size 24 i.2.1 i.2.2.1 i.2.2.2.1 (wantTo P turn skip i.1) (fromTo skip i.1) i.2.2.2.2 ((fromTo skip i.1).map (tnL P turn)) ∧ Ext H3 A) (fun i => N - i.1) (0, Sl.nil, Sl.nil, Sl.nil, []) subs ⟨Nat.zero_le _, Tri.nil _ _ _, Ext.refl _⟩ ?_
  rintro ⟨h, w, f, a, ss⟩ A ⟨hh, hT, eA⟩
  have hh : h ≤ N := hh
  have hT : Tri A H3.size 24 w f a (wantTo P turn skip h) (fromTo skip h) ss ((fromTo skip h).map (tnL P turn)) := hT
  have bA := b3.ext eA
  have hkA := hk3.ext eA
  have htA := ht3.ext eA
  have htrow := htA.row
  have htlen := htA.len
  have hRA := RA.ext eA
  have hRArow := hRA.brows.row
  have zA := eA.size
  have hfl := fromTo_le skip h
  have hwl := wantTo_le P turn skip h
  show Wp _ _ _ [(1, s.val), (3, k.val), (4, t.val), (5, .pointer (some ⟨H.size, 0, none⟩)), (11, al.val), (12, f.val), (13, w.val), (14, a.val), (15, I64 h)] _ _
  refine go ?_
  refine Wp.br (fun hlt => ?_) (fun hlt => ?_)
  case refine_2 =>
    have hlt : ¬ (h : Int) < (N : Int) := hlt
    have : h = N := by omega
    subst this
    have rw' := OwnR.rowF (f := I64) (dd := 0) hT.wr
    have rf' := OwnR.rowF (f := I64) (dd := 0) hT.fr
    have hsA := hs3.ext eA
    have xA := x03.trans eA
    refine go ?_
    refine RegS.sp (fun h4 => ?_) (fun h4 => ?_) <;> refine go ?_
    · refine RegS.call (out11 xA) ?_
      rintro _ H4 ⟨rfl, e4⟩
      refine go ?_
      exact ret1 ⟨rfl, e4⟩
    refine Wp.br (fun h5 => ?_) (fun h5 => ?_) <;> refine go ?_
    · refine RegS.call (out11 xA) ?_
      rintro _ H4 ⟨rfl, e4⟩
      refine go ?_
      exact ret1 ⟨rfl, e4⟩
    have hcnt : ((List.range h).filter (keepB skip)).countP (turned P (tnL P turn)) = (wantTo P turn skip h).length := List.countP_eq_length_filter
    have hfd := hcor (by omega) (by omega) (by omega) (by omega) htl (by rw [hcnt]; omega) (by
      rw [hcnt]
      show _ ≤ (fromTo skip h).length - _
      omega)
    have hof := hoff htl
    refine RegP.call (new_ok A) ?_
    rintro _ H4 ⟨fb, rfl, hF, x4⟩
    refine ⟨.inl x4, ?_⟩
    have b4 := bA.ext x4
    have hs4 := hsA.ext x4
    have hT4 := hT.ext x4
    have hsl := hT4.li.len
    rw [List.length_map] at hsl
    refine go ?_
    refine RegP.call (open_ok fb h T K E R data.length f a ss _ _ H4 hF (rowF_int (OwnR.rowF (f := I64) (dd := 0) hT4.fr)) hT4.brows (by rw [List.length_map]; omega) (by rw [List.length_map]; omega) (by omega) (by omega) (by omega) (by omega) (by omega) (by omega) (by omega) (by omega)) ?_
    rintro _ H5 ⟨x5, ⟨hs', qs, d, w2, f1, rfl, md, ow⟩ | ⟨hno, rfl⟩⟩
    case inr => exact absurd hfd (hno _ _)
    refine ⟨.inl x5, ?_⟩
    obtain ⟨e1, e2⟩ := f1.one hfd
    subst e2
    rw [hdoc] at md
    rw [e1] at ow
    have ow' : OwnF I64 H5 H4.size 3 w2 (wantTo qs turn skip h) := by
      have : offs h ((List.range h).filter (keepB skip)) ((fromTo skip h).map (tnL qs turn)) qs = wantTo qs turn skip h := hof
      rw [this] at ow; exact ow
    have x45 := x4.trans x5
    refine go ?_
    refine RegS.call (out11 (Ext.refl H5)) ?_
    rintro _ H6 ⟨rfl, x6⟩
    have md6 := (md.ext x6).bytes
    have hs6 := hsA.ext (x45.trans x6)
    have hT6 := hT.ext (x45.trans x6)
    refine go ?_
    repeat (refine RegS.sp (fun _ => ?_) (fun h => absurd rfl h); refine go ?_)
    refine RegS.call (sameInts_ok w2 w _ _ H6 (OwnR.rowF (f := I64) (dd := 0) (ow'.ext x6)) (OwnR.rowF (f := I64) (dd := 0) hT6.wr) (by omega)) ?_
    rintro _ _ ⟨rfl, rfl⟩
    rw [dec_pos rfl]
    refine go ?_
    exact ret1 ⟨rfl, xA.trans (x45.trans x6)⟩
  have hlt : (h : Int) < (N : Int) := hlt
  have hah := RA.li.each h (by rw [sharesL_length]; omega)
  rw [sharesL_getD (by omega)] at hah
  have hal := RA.li.lt h (by rw [sharesL_length]; omega)
  have hahA := hah.ext eA
  refine go ?_
  refine RegS.sp (fun h4 => ?_) (fun h4 => ?_)
  case' refine_1 =>
    refine go ?_
    refine Wp.brB (fun h5 => ?_) (fun h5 => ?_)
    case' refine_1 =>
      refine go ?_
      refine roundQ_n (h + 1, w, f, a, ss) subs ⟨by simp only; omega, ?_, eA⟩ (by simp only; omega)
      show Tri _ _ _ _ _ _ (wantTo P turn skip (h + 1)) (fromTo skip (h + 1)) _ ((fromTo skip (h + 1)).map (tnL P turn))
      rw [wantTo_no h5, fromTo_no h5]; exact hT
  case' refine_2 =>
    have h5 : skip.getD h false = false := by simp [List.getD_eq_getElem?_getD, List.getElem?_eq_none (show skip.length ≤ h by omega)]
  all_goals
    refine go ?_
    refine Wp.mid (ι := Sl) (fun x => [(1, s.val), (3, k.val), (4, t.val), (5, .pointer (some ⟨H.size, 0, none⟩)), (11, al.val), (12, f.val), (13, w.val), (14, a.val), (15, I64 h), (16, x.val)]) (fun x B => Ext A B ∧ Loose B w f a x (tnL P turn h)) ?_ ?_
    · refine Wp.br (fun h6 => ?_) (fun h6 => ?_)
      · have h6 : (h : Int) < (tt.length : Int) := h6
        have htb := htA.each h (by omega)
        refine go ?_
        refine RegS.call (xor_ok (ssA.getD h Sl.nil) (tt.getD h Sl.nil) _ _ A hahA htb (by rw [shareL_length]; omega)) ?_
        rintro _ A1 ⟨x, rfl, mx, y1⟩
        refine go ?_
        exact midQ_n x subs ⟨y1, tri_new hT mx⟩
      · have h6 : ¬ (h : Int) < (tt.length : Int) := h6
        refine go ?_
        refine midQ_n (ssA.getD h Sl.nil) subs ⟨Ext.refl _, ?_⟩
        rw [tnL, show turn.getD h [] = [] by simp [List.getD_eq_getElem?_getD, List.getElem?_eq_none (show turn.length ≤ h by omega)], xorS_nil]
        exact tri_old hT hahA (fun b hb => hal b hb) (by omega)
    rintro x B ⟨eB, hL⟩
    have hTB := hT.ext eB
    have bB := bA.ext eB
    have hahB := hahA.ext eB
    have hRB := hRArow.ext eB
    have hxb := hL.bytes
    have zB := eB.size
    have hssl := hT.li.len
    rw [List.length_map] at hssl
    refine go ?_
    refine RegP.q' (h := Rd.neqS rfl rfl rfl) ?_
    refine go ?_
    refine Wp.mid (ι := Sl) (fun w' => [(1, s.val), (3, k.val), (4, t.val), (5, .pointer (some ⟨H.size, 0, none⟩)), (11, al.val), (12, f.val), (13, w'.val), (14, a.val), (15, I64 h), (16, x.val)])
      (fun w' D => Ext H3 D ∧ Tri D H3.size 24 w' f a (wantTo P turn skip (h + 1)) (fromTo skip h) ss ((fromTo skip h).map (tnL P turn)) ∧ Loose D w' f a x (tnL P turn h)) ?_ ?_
    · refine Wp.br (fun h7 => ?_) (fun h7 => ?_)
      · refine go ?_
        refine RegS.buildSlice fun B1 o1 y1 w1 => ?_
        have r1 : RowF I64 0 B1 (Sl.fresh B.size 1) [h] := OwnR.rowF (f := I64) (l := [h]) o1
        have hT1 := hTB.ext y1
        have z1 := y1.size
        refine go ?_
        refine RegS.append (f := I64) hT1.wr r1 (fun _ => rfl) (by omega) ?_ ?_ ?_
        · simp only [List.length_singleton]; omega
        · simp only [List.length_singleton]; omega
        intro w' B2 o2 c2 b2
        refine go ?_
        refine midQ_n w' subs ⟨((eA.trans eB).trans y1).then c2 fun q hq => (hT1.wr.blk_ge hq).1, ?_, (hL.ext y1).addw c2 b2⟩
        rw [(wantTo_yes h5).1 h7]; exact hT1.addw o2 c2 b2
      · refine go ?_
        refine midQ_n w subs ⟨eA.trans eB, ?_, hL⟩
        rw [(wantTo_yes h5).2 h7]; exact hTB
    rintro w' D ⟨eD, hTD, hLD⟩
    have zD := eD.size
    refine go ?_
    refine RegS.buildSlice fun D1 o1 y1 w1 => ?_
    have r1 : RowF I64 0 D1 (Sl.fresh D.size 1) [h] := OwnR.rowF (f := I64) (l := [h]) o1
    have hT1 := hTD.ext y1
    have hL1 := hLD.ext y1
    have z1 := y1.size
    refine go ?_
    refine RegS.append (f := I64) hT1.fr r1 (fun _ => rfl) (by omega) ?_ ?_ ?_
    · simp only [List.length_singleton]; omega
    · simp only [List.length_singleton]; omega
    intro f' D2 o2 c2 b2
    have hT2 := hT1.addf o2 c2 b2
    have hL2 := hL1.addf c2 b2
    have e2 := (eD.trans y1).then c2 fun q hq => (hT1.fr.blk_ge hq).1
    have z2 := c2.size
    refine go ?_
    refine RegS.buildSlice fun D3 o3 y3 w3 => ?_
    have r3 : RowF Sl.val Sl.nil D3 (Sl.fresh D2.size 1) [x] := OwnR.rowF (f := Sl.val) (l := [x]) o3
    have hT3 := hT2.ext y3
    have hL3 := hL2.ext y3
    have z3 := y3.size
    refine go ?_
    refine RegS.append (f := Sl.val) hT3.ar r3 (fun _ => rfl) (by omega) ?_ ?_ ?_
    · simp only [List.length_singleton]; omega
    · simp only [List.length_singleton]; omega
    intro a' D4 o4 c4 b4
    have hT4 := hT3.adda hL3.bytes hL3.lt o4 c4 b4
    refine go ?_
    refine roundQ_n (h + 1, w', f', a', ss ++ [x]) subs ⟨by simp only; omega, ?_, (e2.trans y3).then c4 fun q hq => (hT3.ar.blk_ge hq).1⟩ (by simp only; omega)
    show Tri _ _ _ _ _ _ (wantTo P turn skip (h + 1)) (fromTo skip (h + 1)) _ ((fromTo skip (h + 1)).map (tnL P turn))
    rw [fromTo_yes h5, List.map_append]; exact hT4
end Go.Proofs.Ytccgbgjhjpllcaa
