/-
  What is found, walked.
-/
import Derived.Test.YtaikdcnifijcoaaGreatQ41
set_option linter.unusedVariables false
set_option linter.unusedSimpArgs false
namespace Go.Proofs.YtaikdcnifijcoaaGreat
open Go Go.Vc Go.Gf
theorem nodup_le : ∀ (N : Nat) (l : List Nat), l.Nodup → (∀ x ∈ l, x < N) → l.length ≤ N
  | 0, l, _, h => by
    cases l with
    | nil => simp
    | cons a r => exact absurd (h a List.mem_cons_self) (by omega)
  | N + 1, l, hn, h => by
    have h1 := nodup_le N (l.erase N) (hn.erase N) fun x hx => by
      have := (hn.mem_erase_iff).1 hx
      have := h x this.2
      omega
    by_cases hm : N ∈ l
    · have := List.length_erase_of_mem hm; omega
    · rw [List.erase_of_not_mem hm] at h1; omega
theorem Few.le {N : Nat} {hs : List Nat} (h : Few N hs) : hs.length ≤ N := by
  obtain ⟨h1, h2⟩ := few_iff.1 h
  exact nodup_le N hs h2 h1
theorem enough_few {N m : Nat} {cols : Int} {fl : List Int} {rows : List (List UInt8)} (h : enoughP N m cols fl rows) : ∃ hs : List Nat, fl = hs.map (fun (n : Nat) => (n : Int)) ∧ Few N hs := by
  have hg : ∀ x ∈ fl, 0 ≤ x := fun x hx => by
    obtain ⟨i, hi, rfl⟩ := (mem_getD (d := 0)).1 hx
    exact (h.2.2.2 i hi).1
  have hm : (fl.map Int.toNat).map (fun (n : Nat) => (n : Int)) = fl := by
    rw [List.map_map]
    refine (List.map_congr_left (g := id) fun a ha => ?_).trans (List.map_id _)
    have := hg a ha
    simp; omega
  have hgd : ∀ i, i < fl.length → ((fl.map Int.toNat).getD i 0 : Int) = fl.getD i 0 := fun i hi => by
    have := hg (fl.getD i 0) (mem_getD.2 ⟨i, hi, rfl⟩)
    simp [List.getD_eq_getElem?_getD, hi] at this ⊢
    omega
  refine ⟨fl.map Int.toNat, hm.symm, fun i hi => ?_, fun i hi j hj e => ?_⟩
  · rw [List.length_map] at hi
    have := (h.2.2.2 i hi).2.1
    have := hgd i hi
    omega
  · rw [List.length_map] at hi
    have h1 := hgd i hi
    have h2 := hgd j (by omega)
    refine (h.2.2.2 i hi).2.2.1 ((mem_getD (d := 0)).2 ⟨j, by simp; omega, ?_⟩)
    have h3 : (fl.take i).getD j 0 = fl.getD j 0 := by simp [List.getD_eq_getElem?_getD, List.getElem?_take, hj]
    rw [h3]
    omega
theorem off_snoc {hs : List Nat} {rows qs : List (List UInt8)} {p : List UInt8} (hl : hs.length = rows.length) (x : Nat) :
    Off hs rows (qs ++ [p]) x ↔ Off hs rows qs x ∨ ∃ j ∈ wrongL p (ptsN hs) (colN rows qs.length) hs.length, hs.getD j 0 = x := by
  rw [off_iff hl, off_iff hl]
  have g1 : ∀ c, c < qs.length → (qs ++ [p]).getD c [] = qs.getD c [] := fun c hc => by simp [List.getD_eq_getElem?_getD, List.getElem?_append, hc]
  have g2 : (qs ++ [p]).getD qs.length [] = p := by simp [List.getD_eq_getElem?_getD]
  constructor
  · rintro ⟨c, hc, i, hi, e⟩
    simp only [List.length_append, List.length_singleton] at hc
    by_cases hlt : c < qs.length
    · rw [g1 c hlt] at hi; exact .inl ⟨c, hlt, i, hi, e⟩
    · have : c = qs.length := by omega
      subst this
      rw [g2] at hi; exact .inr ⟨i, hi, e⟩
  · rintro (⟨c, hc, i, hi, e⟩ | ⟨i, hi, e⟩)
    · exact ⟨c, by simp; omega, i, by rw [g1 c hc]; exact hi, e⟩
    · exact ⟨qs.length, by simp, i, by rw [g2]; exact hi, e⟩
def isFound (N T K E : Nat) (cols : Int) (fl : List Int) (rows : List (List UInt8)) (hs : List Nat) (qs : List (List UInt8)) : Prop :=
  fl = hs.map (fun (n : Nat) => (n : Int)) ∧ Few N hs ∧ enoughP N (T + K + E) cols fl rows ∧ Found (T + K - 1) E cols.toNat hs rows qs
/-- Polynomials and holders, growing. -/
structure FindS (A : Heap) (base : Nat) (a : Sl) (ss : List Sl) (qs : List (List UInt8)) (w : Sl) (wl : List Nat) : Prop where
  mat : Mat A base 36 a ss qs
  wr : OwnF I64 A base 3 w wl
  d1 : ∀ b, a.blk = some b → w.blk ≠ some b
  d2 : ∀ k b, k < qs.length → (ss.getD k Sl.nil).blk = some b → w.blk ≠ some b
section
variable {A A' : Heap} {base : Nat} {a w : Sl} {ss : List Sl} {qs : List (List UInt8)} {wl : List Nat}
theorem FindS.ext (h : FindS A base a ss qs w wl) (x : Ext A A') : FindS A' base a ss qs w wl := ⟨h.mat.ext x, h.wr.ext x, h.d1, h.d2⟩
theorem FindS.nil (A : Heap) (base : Nat) : FindS A base Sl.nil [] [] Sl.nil [] := ⟨Mat.nil _ _ _, OwnR.nil _ _ _ _, fun b h => by simp [Sl.blk, Sl.nil] at h, fun k b h => absurd h (by simp)⟩
theorem FindS.add {a' s : Sl} {p : List UInt8} {A0 : Heap} (h0 : FindS A0 base a ss qs w wl) (x : Ext A0 A) (hs : Mine A A0.size s p) (hb0 : base ≤ A0.size)
    (ho : OwnF Sl.val A' base 36 a' (ss ++ [s])) (c : Chg (fun b => a.blk = some b) A A') (hb : a'.blk = a.blk ∨ ∃ b, a'.blk = some b ∧ A.size ≤ b) : FindS A' base a' (ss ++ [s]) (qs ++ [p]) w wl := by
  have h := h0.ext x
  have z := x.size
  refine ⟨Mat.app (S := fun _ => False) h.mat (hs.low hb0) (fun j b hj hx hx' => ?_) (fun b hx hx' => ?_) ho c hb, h.wr.chg c fun b hx hx' => h.d1 b hx' hx, fun b hx hx' => ?_, fun k b hk hx hx' => ?_⟩
  · have := ((h0.mat.each j hj).blk b hx).2; have := (hs.blk b hx').1; omega
  · have := (h0.mat.arr.blk_ge hx').2; have := (hs.blk b hx).1; omega
  · rcases hb with e | ⟨b', e, hz⟩
    · exact h.d1 b (e ▸ hx) hx'
    · rw [e] at hx
      simp only [Option.some.injEq] at hx
      have := (h.wr.blk_ge hx').2
      omega
  · simp only [List.length_append, List.length_singleton] at hk
    rw [getD_app_last (by have := h.mat.len; omega)] at hx
    split at hx
    · exact h.d2 k b (by have := h.mat.len; omega) hx hx'
    · have := (hs.blk b hx).1
      have := (h0.wr.blk_ge hx').2
      omega
theorem FindS.addw {w' : Sl} {wl' : List Nat} (h : FindS A base a ss qs w wl) (ho : OwnF I64 A' base 3 w' wl') (c : Chg (fun b => w.blk = some b) A A') (hb : w'.blk = w.blk ∨ ∃ b, w'.blk = some b ∧ A.size ≤ b) : FindS A' base a ss qs w' wl' := by
  refine ⟨h.mat.chg' c (fun b hx hx' => h.d1 b hx hx') (fun k b hk hx hx' => h.d2 k b hk hx hx'), ho, fun b hx hx' => ?_, fun k b hk hx hx' => ?_⟩
  · rcases hb with e | ⟨b', e, hz⟩
    · exact h.d1 b hx (e ▸ hx')
    · rw [e] at hx'
      simp only [Option.some.injEq] at hx'
      have := (h.mat.arr.blk_ge hx).2
      omega
  · rcases hb with e | ⟨b', e, hz⟩
    · exact h.d2 k b hk hx (e ▸ hx')
    · rw [e] at hx'
      simp only [Option.some.injEq] at hx'
      have := ((h.mat.each k hk).blk b hx).2
      omega
end
def FindR (H : Heap) (N T K E : Nat) (cols : Int) (fl : List Int) (rows : List (List UInt8)) (v : Value) (H' : Heap) : Prop :=
  Ext H H' ∧ ((∃ (hs : List Nat) (qs : List (List UInt8)) (a w : Sl) (ss : List Sl), isFound N T K E cols fl rows hs qs ∧ v = .tuple #[a.val, w.val, .bool true] ∧ FindS H' H.size a ss qs w (offs N hs rows qs)) ∨
    ((∀ hs qs, ¬ isFound N T K E cols fl rows hs qs) ∧ v = .tuple #[Sl.nil.val, Sl.nil.val, .bool false]))
theorem rowF_nat {H : Heap} {s : Sl} {hs : List Nat} (h : RowF IV 0 H s (hs.map fun (n : Nat) => (n : Int))) : RowF I64 0 H s hs :=
  ⟨by rw [h.len, List.length_map], fun j hj => by
    have := h.cell j (by simpa using hj)
    rw [this]
    simp [List.getD_eq_getElem?_getD, hj]⟩
theorem ownF_int {A : Heap} {base e : Nat} {w : Sl} {wl : List Nat} (h : OwnF I64 A base e w wl) : OwnF IV A base e w (wl.map fun (n : Nat) => (n : Int)) := by
  rw [OwnF, List.map_map]; exact h
theorem ownF_nat {A : Heap} {base e : Nat} {w : Sl} {wl : List Nat} (h : OwnF IV A base e w (wl.map fun (n : Nat) => (n : Int))) : OwnF I64 A base e w wl := by
  rw [OwnF, List.map_map] at h; exact h
set_option maxHeartbeats 4000000 in
theorem find_ok (fb N T K E R : Nat) (cols : Int) (s r : Sl) (rs : List Sl) (fl : List Int) (rows : List (List UInt8)) (H : Heap) (hF : IsField H fb) (hs : RowF IV 0 H s fl) (hr : BRows H r rs rows)
    (hl : fl.length ≤ 9223372036854775807) (hl2 : rows.length ≤ 9223372036854775807) (hT0 : 1 ≤ T) (hT : T ≤ 255) (hK : K ≤ 255) (hE : E ≤ 255) (hN : N ≤ 255) (hc : cols ≤ 100000) (hd : T + K ≤ 256) :
    CallsH Tryz.prog 118 [fieldV fb, pmV N T K E R, IV cols, s.val, r.val] H (FindR H N T K E cols fl rows) := by
  refine CallsH.enter h118 Tryz.func118 rfl rfl rfl (by decide) fun u => go ?_
  refine RegS.boxA fun H0 x0 z0 b0 => ?_
  have hs0 := hs.ext x0
  have hr0 := hr.ext x0
  have hF0 := hF.ext x0
  refine go ?_
  refine RegS.call (enough_ok N T K E R cols s r rs fl rows H0 hs0 hr0 hl hl2 hT hK hE) ?_
  rintro _ H1 ⟨rfl, x1⟩
  by_cases he : enoughP N (T + K + E) cols fl rows
  case neg =>
    rw [dec_neg he]
    refine go ?_
    exact ret3 ⟨x0.trans x1, .inr ⟨fun hs qs k => he k.2.2.1, rfl⟩⟩
  rw [dec_pos he]
  have b1 := b0.ext x1
  have x01 := x0.trans x1
  obtain ⟨hs', rfl, hfew⟩ := enough_few he
  obtain ⟨he1, he2, he3, he4⟩ := id he
  rw [List.length_map] at he1 he2 he4 hl
  have hle := hfew.le
  obtain ⟨n, rfl⟩ := Int.eq_ofNat_of_zero_le he3
  have hs1 := rowF_nat (hs0.ext x1)
  have hcl : ∀ k, k < rows.length → (rows.getD k []).length = n := fun k hk => by have := (he4 k (by omega)).2.2.2; omega
  refine go ?_
  refine RegS.call (points_ok N T K E R s hs' H1 hs1 (by omega)) ?_
  rintro _ H2 ⟨sp, rfl, mp, x2⟩
  have b2 := b1.ext x2
  have x02 := x01.trans x2
  have hpl := ptsN_length hs'
  refine go ?_
  refine Wp.loop (ι := Nat × Sl × List Sl × List (List UInt8) × Sl × List Nat)
    (fun i => [(0, fieldV fb), (3, s.val), (4, r.val), (6, .pointer (some ⟨H.size, 0, none⟩)), (10, i.2.1.val), (11, i.2.2.2.2.1.val), (12, .bool false), (13, sp.val), (29, I64 n), (30, I64 i.1)])
    (fun i A => i.1 ≤ n ∧ Ext H2 A ∧ FindS A H2.size i.2.1 i.2.2.1 i.2.2.2.1 i.2.2.2.2.1 i.2.2.2.2.2 ∧ Found (T + K - 1) E i.1 hs' rows i.2.2.2.1 ∧ (∀ x, x ∈ i.2.2.2.2.2 ↔ Off hs' rows i.2.2.2.1 x) ∧ i.2.2.2.2.2.length ≤ 255 * i.1)
    (fun i => n - i.1) (0, Sl.nil, [], [], Sl.nil, []) subs ⟨Nat.zero_le _, Ext.refl _, FindS.nil _ _, ⟨rfl, fun c h => absurd h (by omega)⟩, fun x => by simp [Off], by simp⟩ ?_
  rintro ⟨i, a, ss, qs, w, wl⟩ A ⟨hi, eA, hS, hfd, hmem, hwl⟩
  have hi : i ≤ n := hi
  have hwl : wl.length ≤ 255 * i := hwl
  have hql : qs.length = i := hfd.len
  have hS : FindS A H2.size a ss qs w wl := hS
  have hssl : ss.length = qs.length := hS.mat.len
  have hmem : ∀ x, x ∈ wl ↔ Off hs' rows qs x := hmem
  have eHA := x02.trans eA
  have bA := b2.ext eA
  have hrA := hr.ext eHA
  have mpA := mp.ext eA
  have hFA := hF.ext eHA
  have hzA := eA.size
  show Wp _ _ _ [(0, fieldV fb), (3, s.val), (4, r.val), (6, .pointer (some ⟨H.size, 0, none⟩)), (10, a.val), (11, w.val), (12, .bool false), (13, sp.val), (29, I64 n), (30, I64 i)] _ _
  refine go ?_
  refine Wp.br (fun h => ?_) (fun h => ?_)
  · have h : (i : Int) < (n : Int) := h
    refine go ?_
    refine RegP.call (column_ok r rs rows i A hrA (by omega) fun k hk => by rw [hcl k hk]; omega) ?_
    rintro _ A1 ⟨sc, rfl, mc, y1⟩
    refine ⟨.inl y1, ?_⟩
    have bA1 := bA.ext y1
    refine go ?_
    refine RegP.call (bw_own fb sp sc (ptsN hs') (colN rows i) ((T + K - 1 : Nat) : Int) (E : Int) A1 (hFA.ext y1) (mpA.ext y1).bytes mc.bytes (by omega)) ?_
    rintro _ A2 ⟨y2, hB⟩
    refine ⟨.inl y2, ?_⟩
    have y12 := y1.trans y2
    have z12 := y12.size
    obtain ⟨p, sq, O, g, rfl, mq, rO⟩ | ⟨hno, rfl⟩ := hB
    case inr =>
      refine go ?_
      refine ret3 ⟨eHA.trans y12, .inr ⟨fun hs2 qs2 k => ?_, rfl⟩⟩
      have e2 : hs2 = hs' := by
        have := congrArg (List.map Int.toNat) k.1
        simpa [List.map_map, Function.comp_def] using this.symm
      subst e2
      exact hno _ (k.2.2.2.good i (by simpa using h))
    have hS2 := hS.ext y12
    refine go ?_
    refine RegS.buildSlice fun A3 o3 y3 w3 => ?_
    have r3 : RowF Sl.val Sl.nil A3 (Sl.fresh A2.size 1) [sq] := OwnR.rowF (f := Sl.val) (l := [sq]) o3
    have z3 := y3.size
    refine go ?_
    refine RegS.append (f := Sl.val) (hS2.mat.arr.ext y3) r3 (fun _ => rfl) (by omega) ?_ ?_ ?_
    · simp only [List.length_singleton]; omega
    · simp only [List.length_singleton]; omega
    intro a' A4 o4 c4 ba4
    have y14 := y2.trans y3
    have hS4 : FindS A4 H2.size a' (ss ++ [sq]) (qs ++ [p]) w wl := (hS.ext y1).add (A0 := A1) y14 (mq.ext y3) (by have := y1.size; omega) o4 c4 ba4
    have e4 : Ext H2 A4 := (eA.trans (y12.trans y3)).then c4 fun x hx => (hS.mat.arr.blk_ge hx).1
    have rO4 : OwnF I64 A4 A1.size 3 O (wrongL p (ptsN hs') (colN rows i) (ptsN hs').length) := (OwnR.ext rO y3).chg c4 fun b hb hb' => by
      have := (rO.blk_ge hb).1
      have := (hS.mat.arr.blk_ge hb').2
      have := y1.size
      omega
    rw [hpl] at rO4
    have hOw4 : ∀ b, O.blk = some b → w.blk ≠ some b := fun b hb hb' => by
      have := (rO.blk_ge hb).1
      have := (hS.wr.blk_ge hb').2
      have := y1.size
      omega
    have hin : ∀ j, j ∈ wrongL p (ptsN hs') (colN rows i) hs'.length → j < hs'.length := fun j hj => (wrongL_lt hj).1
    have hpll := wrongL_le p (ptsN hs') (colN rows i) hs'.length
    have hoff := off_snoc (hs := hs') (rows := rows) (qs := qs) (p := p) (by omega)
    rw [hql] at hoff
    have hfd' : Found (T + K - 1) E (i + 1) hs' rows (qs ++ [p]) := ⟨by simp [hql], fun c hc => by
      by_cases e : c < qs.length
      · rw [show (qs ++ [p]).getD c [] = qs.getD c [] by simp [List.getD_eq_getElem?_getD, List.getElem?_append, e]]
        exact hfd.good c (by omega)
      · have : c = qs.length := by omega
        subst this
        rw [show (qs ++ [p]).getD qs.length [] = p by simp [List.getD_eq_getElem?_getD], hql]
        exact g⟩
    generalize wrongL p (ptsN hs') (colN rows i) hs'.length = pl at rO4 hin hpll hoff
    have rO4r : RowF I64 0 A4 O pl := rO4.rowF
    refine go ?_
    refine Wp.loop (ι := Nat × Sl × List Nat)
      (fun j => [(0, fieldV fb), (3, s.val), (4, r.val), (6, .pointer (some ⟨H.size, 0, none⟩)), (10, a'.val), (11, j.2.1.val), (12, .bool false), (13, sp.val), (29, I64 n), (30, I64 i), (57, O.val), (58, I64 pl.length), (59, I64 j.1)])
      (fun j B => j.1 ≤ pl.length ∧ Ext H2 B ∧ FindS B H2.size a' (ss ++ [sq]) (qs ++ [p]) j.2.1 j.2.2 ∧ OwnF I64 B A1.size 3 O pl ∧ (∀ b, O.blk = some b → j.2.1.blk ≠ some b) ∧ j.2.2 = wl ++ (pl.take j.1).map fun x => hs'.getD x 0)
      (fun j => pl.length - j.1) (0, w, wl) subs ⟨Nat.zero_le _, e4, hS4, rO4, hOw4, by simp⟩ ?_
    rintro ⟨j, w', wl'⟩ B ⟨hj, eB, hSB, hOB, hOw, hwl'⟩
    have hj : j ≤ pl.length := hj
    have hSB : FindS B H2.size a' (ss ++ [sq]) (qs ++ [p]) w' wl' := hSB
    have hwl' : wl' = wl ++ (pl.take j).map fun x => hs'.getD x 0 := hwl'
    have hOw : ∀ b, O.blk = some b → w'.blk ≠ some b := hOw
    have hOr : RowF I64 0 B O pl := hOB.rowF
    have hsB := hs1.ext (x2.trans eB)
    have zB := eB.size
    have hlw : wl'.length = wl.length + j := by rw [hwl']; simp; omega
    show Wp _ _ _ [(0, fieldV fb), (3, s.val), (4, r.val), (6, .pointer (some ⟨H.size, 0, none⟩)), (10, a'.val), (11, w'.val), (12, .bool false), (13, sp.val), (29, I64 n), (30, I64 i), (57, O.val), (58, I64 pl.length), (59, I64 j)] _ _
    refine go ?_
    refine Wp.br (fun h2 => ?_) (fun h2 => ?_)
    · have h2 : (j : Int) < (pl.length : Int) := h2
      have hjl := hin (pl.getD j 0) (mem_getD.2 ⟨j, by omega, rfl⟩)
      refine go ?_
      refine RegS.buildSlice fun B1 p1 q1 v1 => ?_
      have r1 : RowF I64 0 B1 (Sl.fresh B.size 1) [hs'.getD (pl.getD j 0) 0] := OwnR.rowF (e := 3) (l := [hs'.getD (pl.getD j 0) 0]) p1
      have zB1 := q1.size
      refine go ?_
      refine RegS.append (f := I64) (hSB.wr.ext q1) r1 (fun _ => rfl) (by omega) ?_ ?_ ?_
      · simp only [List.length_singleton]; omega
      · simp only [List.length_singleton]; omega
      intro w'' B2 p2 c2 bw2
      refine go ?_
      refine roundQ_n (j + 1, w'', wl' ++ [hs'.getD (pl.getD j 0) 0]) subs ⟨by simp only; omega, (eB.trans q1).then c2 fun x hx => (hSB.wr.blk_ge hx).1, (hSB.ext q1).addw p2 c2 bw2, (OwnR.ext hOB q1).chg c2 fun b hb hb' => hOw b hb hb', fun b hb hb' => ?_, ?_⟩ (by simp only; omega)
      · rcases bw2 with e | ⟨b', e, hz⟩
        · exact hOw b hb (e ▸ hb')
        · have hb' : w''.blk = some b := hb'
          rw [e] at hb'
          simp only [Option.some.injEq] at hb'
          have := (hOB.blk_ge hb).2
          omega
      · show wl' ++ [hs'.getD (pl.getD j 0) 0] = _
        have e5 : pl.take (j + 1) = pl.take j ++ [pl.getD j 0] := by
          rw [List.take_add_one, List.getElem?_eq_getElem (by omega)]
          simp [List.getD_eq_getElem?_getD, show j < pl.length by omega]
        rw [hwl', e5, List.map_append, List.append_assoc]
        rfl
    · have h2 : ¬ (j : Int) < (pl.length : Int) := h2
      have : j = pl.length := by omega
      subst this
      rw [List.take_length] at hwl'
      refine go ?_
      refine roundQ_n (i + 1, a', ss ++ [sq], qs ++ [p], w', wl') subs ⟨by simp only; omega, eB, hSB, hfd', fun x => ?_, by simp only; omega⟩ (by simp only; omega)
      show x ∈ wl' ↔ Off hs' rows (qs ++ [p]) x
      rw [hoff, hwl', List.mem_append, hmem, List.mem_map]
  · have h : ¬ (i : Int) < (n : Int) := h
    have : i = n := by omega
    subst this
    refine go ?_
    refine RegS.call (sortI_ok w (wl.map fun (n : Nat) => (n : Int)) H2.size 3 A (ownF_int hS.wr) (by simp; omega)) ?_
    rintro v3 A3 ⟨o3, c3⟩
    have e3 : Ext H2 A3 := eA.then c3 fun x hx => (hS.wr.blk_ge hx).1
    refine go ?_
    refine RegS.call (compactI_ok w _ H2.size 3 A3 o3 (by rw [sorted_length]; simp; omega)) ?_
    rintro v4 A4 ⟨⟨w4, rfl, o4, hb4⟩, c4⟩
    have e4 : Ext H2 A4 := e3.then c4 fun x hx => (hS.wr.blk_ge hx).1
    obtain ⟨L, hL, hL1, hL2⟩ := rise_nat wl
    rw [hL] at o4
    have hLe : L = offs N hs' rows qs := rising_eq hL1 (offs_rising _ _ _ _) fun x => by
      rw [hL2, hmem, offs_mem]
      refine ⟨fun hx => ⟨?_, hx⟩, fun hx => hx.2⟩
      obtain ⟨c, hc, j, hj, rfl⟩ := (off_iff (by omega)).1 hx
      exact hfew.lt j (wrongL_lt hj).1
    subst hLe
    have hS4 := hS.addw (ownF_nat o4) (c3.trans c4) (.inl hb4)
    refine go ?_
    refine ret3 ⟨x02.trans e4, .inl ⟨hs', qs, a, w4, ss, ⟨rfl, hfew, he, by simpa using hfd⟩, rfl, ?_⟩⟩
    have hz := x02.size
    exact ⟨hS4.mat.low (by omega), hS4.wr.low (by omega), hS4.d1, hS4.d2⟩
end Go.Proofs.YtaikdcnifijcoaaGreat
