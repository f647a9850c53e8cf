/-
  The laws of layer 11, walked: known answers, plain.
-/
import Derived.Test.YtgmemfcfjlndoaaGreatVOpen5
set_option linter.unusedVariables false
set_option linter.unusedSimpArgs false
namespace Go.Proofs.YtgmemfcfjlndoaaGreat
open Go Go.Vc Go.Gf

theorem kn1 : tl [7] = [7] ∧ deg1 [7] = 1 ∧ wrongL [7] [1, 2, 3, 4, 5] [7, 7, 8, 7, 7] 5 = [2] ∧ wrongL [7] [1, 2, 3] [7, 7, 8] 3 = [2] ∧ ptsN [0, 1, 2, 3, 4] = [1, 2, 3, 4, 5] ∧ ptsN [0, 1, 2] = [1, 2, 3] ∧ columns 1 1 = 1 ∧ docL 5 1 1 [[7]] = [7] := by decide +kernel
theorem unlike_small : unlike [1, 2, 3, 4, 5] ∧ unlike [1, 2, 3] := by
  constructor
  · intro i hi j hj
    have : ∀ i : Fin 5, ∀ j : Fin 5, j.val < i.val → ([1, 2, 3, 4, 5] : List UInt8).getD i.val 0 ≠ ([1, 2, 3, 4, 5] : List UInt8).getD j.val 0 := by decide
    exact this ⟨i, hi⟩ ⟨j, by simp at hi; omega⟩ hj
  · intro i hi j hj
    have : ∀ i : Fin 3, ∀ j : Fin 3, j.val < i.val → ([1, 2, 3] : List UInt8).getD i.val 0 ≠ ([1, 2, 3] : List UInt8).getD j.val 0 := by decide
    exact this ⟨i, hi⟩ ⟨j, by simp at hi; omega⟩ hj
def knRows : List (List UInt8) := [[7], [7], [8], [7], [7]]
theorem kn_few : Few 5 [0, 1, 2, 3, 4] := few_iff.2 ⟨by decide, by decide⟩
theorem kn_found : isFound 5 1 1 1 ((columns 1 1 : Nat) : Int) [0, 1, 2, 3, 4] knRows [0, 1, 2, 3, 4] [[7]] := by
  obtain ⟨h1, h2, h3, h4, h5, h6, h7, h8⟩ := kn1
  refine ⟨rfl, kn_few, ⟨rfl, by decide, by omega, ?_⟩, ⟨by rw [h7]; rfl, fun c hc => ?_⟩⟩
  · have : ∀ n : Fin 5, 0 ≤ ([0, 1, 2, 3, 4] : List Int).getD n.val 0 ∧ ([0, 1, 2, 3, 4] : List Int).getD n.val 0 < 5 ∧ ([0, 1, 2, 3, 4] : List Int).getD n.val 0 ∉ ([0, 1, 2, 3, 4] : List Int).take n.val ∧ ((knRows.getD n.val []).length : Int) = 1 := by decide
    intro n hn
    rw [h7]
    exact this ⟨n, hn⟩
  · rw [h7] at hc
    have hc0 : c = 0 := by simp at hc; omega
    subst hc0
    rw [h5]
    exact ⟨rfl, by decide, unlike_small.1, by decide, by decide, by decide, by decide, h1, by show (deg1 [7] : Int) ≤ _; rw [h2]; decide, by show ((wrongL [7] [1, 2, 3, 4, 5] [7, 7, 8, 7, 7] 5).length : Int) ≤ _; rw [h3]; decide,
      by show ((wrongL [7] [1, 2, 3, 4, 5] [7, 7, 8, 7, 7] 5).length : Int) + ((1 + 1 - 1 : Nat) : Int) + 1 + ((1 : Nat) : Int) ≤ ((5 : Nat) : Int); rw [h3]; decide⟩
theorem kn_off : offs 5 [0, 1, 2, 3, 4] knRows [[7]] = [2] := by
  obtain ⟨h1, h2, h3, h4, h5, h6, h7, h8⟩ := kn1
  refine rising_eq (offs_rising _ _ _ _) (by simp) fun x => ?_
  rw [offs_mem, off_iff rfl]
  have e : ∀ c, c < 1 → wrongL ([[7]].getD c []) (ptsN [0, 1, 2, 3, 4]) (colN knRows c) 5 = [2] := fun c hc => by
    have : c = 0 := by omega
    subst this
    rw [h5]; exact h3
  constructor
  · rintro ⟨hx, c, hc, i, hi, rfl⟩
    rw [show [0, 1, 2, 3, 4].length = 5 from rfl, e c hc] at hi
    simp at hi; subst hi; simp
  · intro hx
    simp at hx; subst hx
    refine ⟨by omega, 0, by simp, 2, ?_, rfl⟩
    rw [show [0, 1, 2, 3, 4].length = 5 from rfl, e 0 (by omega)]
    simp
theorem kn_none (hs : List Nat) (qs : List (List UInt8)) : ¬ isFound 5 1 1 1 ((columns 1 1 : Nat) : Int) [0, 1, 2] [[7], [7], [8]] hs qs := by
  obtain ⟨h1, h2, h3, h4, h5, h6, h7, h8⟩ := kn1
  rintro ⟨e, _, _, hf⟩
  have e2 : hs = [0, 1, 2] := by
    have := congrArg (List.map Int.toNat) e
    simpa [List.map_map, Function.comp_def] using this.symm
  subst e2
  have hg := hf.good 0 (by rw [h7]; decide)
  rw [h6] at hg
  generalize qs.getD 0 [] = q at hg
  obtain ⟨_, _, _, _, _, _, _, g1, g2, g3, g4⟩ := hg
  have g4 : ((wrongL q [1, 2, 3] [7, 7, 8] 3).length : Int) + 1 + 1 + 1 ≤ 3 := g4
  have g2 : (deg1 q : Int) ≤ 1 + 1 := g2
  have := agree_two (n := 2) (p := [7]) (q := q) (xs := [1, 2, 3]) (ys := [7, 7, 8]) unlike_small.2 (by rw [h2]; omega) (by omega) (by
    show (wrongL [7] [1, 2, 3] [7, 7, 8] 3).length + (wrongL q [1, 2, 3] [7, 7, 8] 3).length + 2 ≤ 3
    rw [h4]; simp; omega)
  rw [h1, g1] at this
  subst this
  rw [h4] at g4
  simp at g4
theorem isFound.hs {N T K E : Nat} {cols : Int} {fl : List Int} {rows : List (List UInt8)} {hs : List Nat} {qs : List (List UInt8)} (h : isFound N T K E cols fl rows hs qs) : hs = fl.map Int.toNat := by
  rw [h.1, List.map_map]
  simp [Function.comp_def]
theorem isFound.one {N T K E : Nat} {cols : Int} {fl : List Int} {rows : List (List UInt8)} {hs hs' : List Nat} {qs qs' : List (List UInt8)} (h : isFound N T K E cols fl rows hs qs) (h' : isFound N T K E cols fl rows hs' qs') : hs = hs' ∧ qs = qs' := by
  have e : hs = hs' := h.hs.trans h'.hs.symm
  subst e
  exact ⟨rfl, h.2.2.2.one h'.2.2.2⟩
theorem brows_of {H : Heap} {s : Sl} {ss : List Sl} {ls : List (List UInt8)} (h : RowF Sl.val Sl.nil H s ss) (hl : ss.length = ls.length) (hb : ∀ k, k < ls.length → Bytes H (ss.getD k Sl.nil) (ls.getD k [])) : BRows H s ss ls := ⟨h, hl, hb⟩
end Go.Proofs.YtgmemfcfjlndoaaGreat
set_option linter.unusedVariables false
set_option linter.unusedSimpArgs false
namespace Go.Proofs.YtgmemfcfjlndoaaGreat
open Go Go.Vc Go.Gf

theorem getD_take_mem {fl : List Int} {n : Nat} (hn : n < fl.length) : fl.getD n 0 ∈ fl.take n ↔ ∃ j, j < n ∧ fl.getD j 0 = fl.getD n 0 := by
  constructor
  · intro h
    obtain ⟨j, hj, e⟩ := (mem_getD (d := 0)).1 h
    simp only [List.length_take] at hj
    refine ⟨j, by omega, ?_⟩
    rw [← e]
    simp [List.getD_eq_getElem?_getD, List.getElem?_take, show j < n by omega]
  · rintro ⟨j, hj, e⟩
    refine (mem_getD (d := 0)).2 ⟨j, by simp; omega, ?_⟩
    rw [← e]
    simp [List.getD_eq_getElem?_getD, List.getElem?_take, hj]
theorem enough_iff {N m : Nat} {cols : Int} {fl : List Int} {rows : List (List UInt8)} :
    enoughP N m cols fl rows ↔ fl.length = rows.length ∧ m ≤ fl.length ∧ 0 ≤ cols ∧ (∀ x ∈ fl, 0 ≤ x ∧ x < N) ∧ fl.Nodup ∧ ∀ r ∈ rows, (r.length : Int) = cols := by
  constructor
  · rintro ⟨h1, h2, h3, h4⟩
    refine ⟨h1, h2, h3, fun x hx => ?_, ?_, fun r hr => ?_⟩
    · obtain ⟨i, hi, rfl⟩ := (mem_getD (d := 0)).1 hx
      exact ⟨(h4 i hi).1, (h4 i hi).2.1⟩
    · rw [List.Nodup, List.pairwise_iff_getElem]
      intro i j hi hj hij e
      refine (h4 j hj).2.2.1 ((getD_take_mem hj).2 ⟨i, hij, ?_⟩)
      simpa [List.getD_eq_getElem?_getD, hi, hj] using e
    · obtain ⟨i, hi, rfl⟩ := (mem_getD (d := [])).1 hr
      exact (h4 i (by omega)).2.2.2
  · rintro ⟨h1, h2, h3, h4, h5, h6⟩
    refine ⟨h1, h2, h3, fun n hn => ?_⟩
    have hx := h4 (fl.getD n 0) (mem_getD.2 ⟨n, hn, rfl⟩)
    refine ⟨hx.1, hx.2, fun hm => ?_, h6 _ (mem_getD.2 ⟨n, by omega, rfl⟩)⟩
    obtain ⟨j, hj, e⟩ := (getD_take_mem hn).1 hm
    rw [List.Nodup, List.pairwise_iff_getElem] at h5
    have hj' : j < fl.length := by omega
    exact h5 j n hj' hn hj (by simpa [List.getD_eq_getElem?_getD, hn, hj'] using e)
theorem enough_turn {N m : Nat} {cols : Int} {fl : List Int} {rows : List (List UInt8)} (k : Nat) (h : enoughP N m cols fl rows) : enoughP N m cols (fl.drop k ++ fl.take k) (rows.drop k ++ rows.take k) := by
  rw [enough_iff] at h ⊢
  obtain ⟨h1, h2, h3, h4, h5, h6⟩ := h
  have p1 := turn_perm fl k
  have p2 := turn_perm rows k
  refine ⟨by rw [← p1.length_eq, ← p2.length_eq]; exact h1, by rw [← p1.length_eq]; exact h2, h3, fun x hx => h4 x (p1.mem_iff.2 hx), p1.nodup_iff.1 h5, fun r hr => h6 r (p2.mem_iff.2 hr)⟩
theorem isFound_turn {N T K E : Nat} {cols : Int} {fl : List Int} {rows : List (List UInt8)} {hs : List Nat} {qs : List (List UInt8)} (k : Nat) (hN : N ≤ 255) (hT : T + K ≤ 256) (hE : E ≤ 255)
    (h : isFound N T K E cols fl rows hs qs) : isFound N T K E cols (fl.drop k ++ fl.take k) (rows.drop k ++ rows.take k) (hs.drop k ++ hs.take k) qs := by
  obtain ⟨rfl, h2, h3, h4⟩ := h
  have hl : hs.length = rows.length := by have := h3.1; simpa using this
  have hp : (hs.zip rows).Perm ((hs.drop k ++ hs.take k).zip (rows.drop k ++ rows.take k)) := by rw [zip_turn hl]; exact turn_perm _ _
  have hf := few_perm (turn_perm hs k) h2
  refine ⟨by rw [List.map_append, List.map_drop, List.map_take], hf, enough_turn k h3, ?_⟩
  have hle := h2.le
  exact found_perm hl (by simp; omega) hp (by omega) hE hN h2 hf (by omega) h4
theorem turn_turn {β : Type} (l : List β) {k : Nat} (hk : k ≤ l.length) : (l.drop k ++ l.take k).drop (l.length - k) ++ (l.drop k ++ l.take k).take (l.length - k) = l := by
  have hd : (l.drop k).length = l.length - k := by simp
  rw [← hd, List.drop_left, List.take_left, List.take_append_drop]
theorem isFound_back {N T K E : Nat} {cols : Int} {fl : List Int} {rows : List (List UInt8)} {hs : List Nat} {qs : List (List UInt8)} {k : Nat} (hk : k ≤ fl.length) (hl : fl.length = rows.length) (hN : N ≤ 255) (hT : T + K ≤ 256) (hE : E ≤ 255)
    (h : isFound N T K E cols (fl.drop k ++ fl.take k) (rows.drop k ++ rows.take k) hs qs) : ∃ hs', isFound N T K E cols fl rows hs' qs := by
  have := isFound_turn (fl.length - k) hN hT hE h
  rw [turn_turn fl hk] at this
  have h2 := turn_turn rows (k := k) (by omega)
  rw [← hl] at h2
  rw [h2] at this
  exact ⟨_, this⟩
theorem offs_turn {N : Nat} {hs : List Nat} {rows qs : List (List UInt8)} (k : Nat) (hl : hs.length = rows.length) : offs N hs rows qs = offs N (hs.drop k ++ hs.take k) (rows.drop k ++ rows.take k) qs :=
  offs_perm (by rw [zip_turn hl]; exact turn_perm _ _)
end Go.Proofs.YtgmemfcfjlndoaaGreat
set_option linter.unusedVariables false
set_option linter.unusedSimpArgs false
namespace Go.Proofs.YtgmemfcfjlndoaaGreat
open Go Go.Vc Go.Gf

theorem zip_map_self {β : Type} (f : Nat → β) : ∀ hs : List Nat, hs.zip (hs.map f) = hs.map fun h => (h, f h)
  | [] => rfl
  | a :: r => by rw [List.map_cons, List.zip_cons_cons, zip_map_self f r, List.map_cons]
theorem shareL_length (qs : List (List UInt8)) (h : Nat) : (shareL qs h).length = qs.length := by simp [shareL]
theorem shareL_getD {qs : List (List UInt8)} {h c : Nat} (hc : c < qs.length) : (shareL qs h).getD c 0 = hor (UInt8.ofNat (h + 1)) (qs.getD c []) := by simp [shareL, List.getD_eq_getElem?_getD, hc]
/-- Whose share was turned. -/
def turned (P : List (List UInt8)) (tn : Nat → List UInt8) (h : Nat) : Bool := decide (tn h ≠ shareL P h)
theorem turned_bad {P : List (List UInt8)} {tn : Nat → List UInt8} {h c : Nat} (hc : c < P.length) (hb : badAt (P.getD c []) c (h, tn h) = true) : turned P tn h = true := by
  simp only [badAt, turned, decide_eq_true_eq] at hb ⊢
  intro e
  rw [e, shareL_getD hc] at hb
  exact hb rfl
theorem turned_some {P : List (List UInt8)} {tn : Nat → List UInt8} {h : Nat} (hl : (tn h).length = P.length) : turned P tn h = true ↔ ∃ c, c < P.length ∧ badAt (P.getD c []) c (h, tn h) = true := by
  constructor
  · intro ht
    refine Classical.byContradiction fun hno => ?_
    simp only [turned, decide_eq_true_eq] at ht
    refine ht (ext0 (by rw [hl, shareL_length]) fun c hc => ?_)
    rw [hl] at hc
    refine Classical.byContradiction fun hne => hno ⟨c, hc, ?_⟩
    simp only [badAt, decide_eq_true_eq]
    rw [← shareL_getD hc]
    exact fun e => hne e.symm
  · rintro ⟨c, hc, hb⟩; exact turned_bad hc hb
theorem count_bad {P : List (List UInt8)} {tn : Nat → List UInt8} {hs : List Nat} {c : Nat} (hc : c < P.length) : (hs.zip (hs.map tn)).countP (badAt (P.getD c []) c) ≤ hs.countP (turned P tn) := by
  rw [zip_map_self, List.countP_map]
  exact List.countP_mono_left fun h _ hb => turned_bad hc hb
theorem count_le {N : Nat} {keep : Nat → Bool} {P : List (List UInt8)} {tn : Nat → List UInt8} : ((List.range N).filter keep).countP (turned P tn) ≤ (List.range N).countP (turned P tn) := by
  rw [List.countP_filter]
  exact List.countP_mono_left fun h _ hb => by simp_all
section
variable {N T K E : Nat} {data rnd : List UInt8} {keep : Nat → Bool} {tn : Nat → List UInt8}
theorem kept_few (N : Nat) (keep : Nat → Bool) : Few N ((List.range N).filter keep) :=
  few_iff.2 ⟨fun h hh => List.mem_range.1 (List.mem_filter.1 hh).1, List.Pairwise.filter _ List.nodup_range⟩
theorem corrects_found (hN : N + K ≤ 255) (hT : 1 ≤ T) (hTK : T + K ≤ 256) (hE : E ≤ 255) (htn : ∀ h, h < N → (tn h).length = columns data.length K)
    (h1 : ((List.range N).filter keep).countP (turned (polysL N T K data rnd) tn) ≤ E) (h2 : T + K + E ≤ ((List.range N).filter keep).length - ((List.range N).filter keep).countP (turned (polysL N T K data rnd) tn)) :
    isFound N T K E ((columns data.length K : Nat) : Int) (((List.range N).filter keep).map fun (n : Nat) => (n : Int)) (((List.range N).filter keep).map tn) ((List.range N).filter keep) (polysL N T K data rnd) := by
  have hf := kept_few N keep
  have hle := hf.le
  have hPl := polysL_length N T K data rnd
  generalize hhs : (List.range N).filter keep = hs at *
  have hmem : ∀ h ∈ hs, h < N := (few_iff.1 hf).1
  refine ⟨rfl, hf, enough_iff.2 ⟨by simp, by simp; omega, by omega, fun x hx => ?_, ?_, fun r hr => ?_⟩, ⟨by rw [hPl]; simp, fun c hc => ?_⟩⟩
  · obtain ⟨h, hh, rfl⟩ := List.mem_map.1 hx
    have := hmem h hh
    omega
  · exact List.Pairwise.map (fun (n : Nat) => (n : Int)) (fun a b e => by omega) (few_iff.1 hf).2
  · obtain ⟨h, hh, rfl⟩ := List.mem_map.1 hr
    rw [htn h (hmem h hh)]
  · have hc : c < columns data.length K := by simpa using hc
    have hb := count_bad (P := polysL N T K data rnd) (tn := tn) (hs := hs) (c := c) (by omega)
    refine (good_iff (by simp) (by omega) (hf.unlike (by omega)) (by omega) hE).2 ⟨polysL_tl hc, ?_, by omega, by omega⟩
    have := polysL_deg (N := N) (rnd := rnd) hc hT
    omega
theorem corrects_offs (htn : ∀ h, h < N → (tn h).length = columns data.length K) :
    offs N ((List.range N).filter keep) (((List.range N).filter keep).map tn) (polysL N T K data rnd) = ((List.range N).filter keep).filter (turned (polysL N T K data rnd) tn) := by
  have hPl := polysL_length N T K data rnd
  refine rising_eq (offs_rising _ _ _ _) (((range_rising N).filter _).filter _) fun x => ?_
  rw [offs_mem, List.mem_filter, List.mem_filter, List.mem_range]
  unfold Off
  constructor
  · rintro ⟨hx, c, hc, p, hp, rfl, hb⟩
    rw [zip_map_self] at hp
    obtain ⟨h, hh, rfl⟩ := List.mem_map.1 hp
    exact ⟨⟨hx, (List.mem_filter.1 hh).2⟩, turned_bad hc hb⟩
  · rintro ⟨⟨hx, hk⟩, ht⟩
    obtain ⟨c, hc, hb⟩ := (turned_some (by rw [htn x hx, hPl])).1 ht
    refine ⟨hx, c, hc, (x, tn x), ?_, rfl, hb⟩
    rw [zip_map_self]
    exact List.mem_map.2 ⟨x, List.mem_filter.2 ⟨List.mem_range.2 hx, hk⟩, rfl⟩
theorem never_found {qs : List (List UInt8)} {hs : List Nat} (hN : N + K ≤ 255) (hT : 1 ≤ T) (hTK : T + K ≤ 256) (hE : E ≤ 255)
    (h1 : (List.range N).countP (turned (polysL N T K data rnd) tn) ≤ E)
    (h : isFound N T K E ((columns data.length K : Nat) : Int) (((List.range N).filter keep).map fun (n : Nat) => (n : Int)) (((List.range N).filter keep).map tn) hs qs) : qs = polysL N T K data rnd := by
  have hPl := polysL_length N T K data rnd
  have e1 : hs = (List.range N).filter keep := by
    rw [h.hs, List.map_map]
    simp [Function.comp_def]
  obtain ⟨_, hf, he, hfo⟩ := h
  have hle := hf.le
  have hcn := count_le (N := N) (keep := keep) (P := polysL N T K data rnd) (tn := tn)
  rw [← e1] at hcn hfo
  refine ext_getD [] (by rw [hfo.len, hPl]; simp) fun c hc => ?_
  rw [hfo.len] at hc
  have hc' : c < columns data.length K := by simpa using hc
  have hb := count_bad (P := polysL N T K data rnd) (tn := tn) (hs := hs) (c := c) (by omega)
  obtain ⟨g1, g2, g3, g4⟩ := (good_iff (by simp) (by omega) (hf.unlike (by omega)) (by omega) hE).1 (hfo.good c hc)
  have hd := polysL_deg (N := N) (rnd := rnd) hc' hT
  rw [← g1, ← polysL_tl (N := N) (T := T) (rnd := rnd) hc']
  refine agree_two (n := T + K) (xs := ptsN hs) (ys := colN (hs.map tn) c) (hf.unlike (by omega)) (by omega) (by omega) ?_
  rw [ptsN_length, wrongL_count (by simp), wrongL_count (by simp)]
  omega
end
theorem offs_succ (h : Nat) (hs : List Nat) (rows qs : List (List UInt8)) : (Off hs rows qs h → offs (h + 1) hs rows qs = offs h hs rows qs ++ [h]) ∧ (¬ Off hs rows qs h → offs (h + 1) hs rows qs = offs h hs rows qs) := by
  unfold offs
  rw [List.range_succ, List.filter_append]
  refine ⟨fun k => ?_, fun k => ?_⟩
  · congr 1
    simp [k]
  · simp [k]
theorem offs_len (h : Nat) (hs : List Nat) (rows qs : List (List UInt8)) : (offs h hs rows qs).length ≤ h := by
  unfold offs
  have := List.length_filter_le (fun x => @decide (Off hs rows qs x) (Classical.propDecidable _)) (List.range h)
  rwa [List.length_range] at this
/-- Whom some truths tell. -/
def Tells (bl : List Bool) (N : Nat) (p : Nat → Prop) : Prop := bl.length = N ∧ ∀ h, h < N → (bl.getD h false = true ↔ p h)
theorem Tells.put {bl : List Bool} {N x : Nat} {p q : Nat → Prop} (h : Tells bl N p) (hx : x < N) (hq : ∀ h, h < N → (q h ↔ p h ∨ h = x)) : Tells (bl.set x true) N q := by
  refine ⟨by rw [List.length_set]; exact h.1, fun k hk => ?_⟩
  rw [hq k hk, ← h.2 k hk, getD_setL (by rw [h.1]; exact hx)]
  by_cases e : k = x
  · simp [e]
  · simp [e]
theorem Tells.same {bl : List Bool} {N : Nat} {p q : Nat → Prop} (h : Tells bl N p) (hq : ∀ h, h < N → (q h ↔ p h)) : Tells bl N q := ⟨h.1, fun k hk => (h.2 k hk).trans (hq k hk).symm⟩
theorem tells_none (N : Nat) : Tells (List.replicate N false) N fun _ => False := ⟨by simp, fun h hh => by simp [List.getD_eq_getElem?_getD, hh]⟩
end Go.Proofs.YtgmemfcfjlndoaaGreat
