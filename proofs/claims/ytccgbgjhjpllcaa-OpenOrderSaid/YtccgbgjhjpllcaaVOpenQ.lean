/-
  The laws of layer 11, plain: shares that were turned.
-/
import Derived.Test.YtccgbgjhjpllcaaVOpenT
set_option linter.unusedVariables false
set_option linter.unusedSimpArgs false
namespace Go.Proofs.Ytccgbgjhjpllcaa
open Go Go.Vc Go.Gf

theorem zip_map_self {β : Type} (f : Nat → β) : ∀ hs : List Nat, hs.zip (hs.map f) = hs.map fun h => (h, f h)
  | [] => rfl
  | a :: r => by rw [List.map_cons, List.zip_cons_cons, zip_map_self f r, List.map_cons]
theorem shareL_length (qs : List (List UInt8)) (h : Nat) : (shareL qs h).length = qs.length := by simp [shareL]
theorem shareL_getD {qs : List (List UInt8)} {h c : Nat} (hc : c < qs.length) : (shareL qs h).getD c 0 = hor (UInt8.ofNat (h + 1)) (qs.getD c []) := by simp [shareL, List.getD_eq_getElem?_getD, hc]
/-- Whose share was turned. -/
def turned (P : List (List UInt8)) (tn : Nat → List UInt8) (h : Nat) : Bool := decide (tn h ≠ shareL P h)
theorem turned_bad {P : List (List UInt8)} {tn : Nat → List UInt8} {h c : Nat} (hc : c < P.length) (hb : badAt (P.getD c []) c (h, tn h) = true) : turned P tn h = true := by
  simp only [badAt, turned, decide_eq_true_eq] at hb ⊢
  intro e
  rw [e, shareL_getD hc] at hb
  exact hb rfl
theorem turned_some {P : List (List UInt8)} {tn : Nat → List UInt8} {h : Nat} (hl : (tn h).length = P.length) : turned P tn h = true ↔ ∃ c, c < P.length ∧ badAt (P.getD c []) c (h, tn h) = true := by
  constructor
  · intro ht
    refine Classical.byContradiction fun hno => ?_
    simp only [turned, decide_eq_true_eq] at ht
    refine ht (ext0 (by rw [hl, shareL_length]) fun c hc => ?_)
    rw [hl] at hc
    refine Classical.byContradiction fun hne => hno ⟨c, hc, ?_⟩
    simp only [badAt, decide_eq_true_eq]
    rw [← shareL_getD hc]
    exact fun e => hne e.symm
  · rintro ⟨c, hc, hb⟩; exact turned_bad hc hb
theorem count_bad {P : List (List UInt8)} {tn : Nat → List UInt8} {hs : List Nat} {c : Nat} (hc : c < P.length) : (hs.zip (hs.map tn)).countP (badAt (P.getD c []) c) ≤ hs.countP (turned P tn) := by
  rw [zip_map_self, List.countP_map]
  exact List.countP_mono_left fun h _ hb => turned_bad hc hb
theorem count_le {N : Nat} {keep : Nat → Bool} {P : List (List UInt8)} {tn : Nat → List UInt8} : ((List.range N).filter keep).countP (turned P tn) ≤ (List.range N).countP (turned P tn) := by
  rw [List.countP_filter]
  exact List.countP_mono_left fun h _ hb => by simp_all
section
variable {N T K E : Nat} {data rnd : List UInt8} {keep : Nat → Bool} {tn : Nat → List UInt8}
theorem kept_few (N : Nat) (keep : Nat → Bool) : Few N ((List.range N).filter keep) :=
  few_iff.2 ⟨fun h hh => List.mem_range.1 (List.mem_filter.1 hh).1, List.Pairwise.filter _ List.nodup_range⟩
theorem corrects_found (hN : N + K ≤ 255) (hT : 1 ≤ T) (hTK : T + K ≤ 256) (hE : E ≤ 255) (htn : ∀ h, h < N → (tn h).length = columns data.length K)
    (h1 : ((List.range N).filter keep).countP (turned (polysL N T K data rnd) tn) ≤ E) (h2 : T + K + E ≤ ((List.range N).filter keep).length - ((List.range N).filter keep).countP (turned (polysL N T K data rnd) tn)) :
    isFound N T K E ((columns data.length K : Nat) : Int) (((List.range N).filter keep).map fun (n : Nat) => (n : Int)) (((List.range N).filter keep).map tn) ((List.range N).filter keep) (polysL N T K data rnd) := by
  have hf := kept_few N keep
  have hle := hf.le
  have hPl := polysL_length N T K data rnd
  generalize hhs : (List.range N).filter keep = hs at *
  have hmem : ∀ h ∈ hs, h < N := (few_iff.1 hf).1
  refine ⟨rfl, hf, enough_iff.2 ⟨by simp, by simp; omega, by omega, fun x hx => ?_, ?_, fun r hr => ?_⟩, ⟨by rw [hPl]; simp, fun c hc => ?_⟩⟩
  · obtain ⟨h, hh, rfl⟩ := List.mem_map.1 hx
    have := hmem h hh
    omega
  · exact List.Pairwise.map (fun (n : Nat) => (n : Int)) (fun a b e => by omega) (few_iff.1 hf).2
  · obtain ⟨h, hh, rfl⟩ := List.mem_map.1 hr
    rw [htn h (hmem h hh)]
  · have hc : c < columns data.length K := by simpa using hc
    have hb := count_bad (P := polysL N T K data rnd) (tn := tn) (hs := hs) (c := c) (by omega)
    refine (good_iff (by simp) (by omega) (hf.unlike (by omega)) (by omega) hE).2 ⟨polysL_tl hc, ?_, by omega, by omega⟩
    have := polysL_deg (N := N) (rnd := rnd) hc hT
    omega
theorem corrects_offs (htn : ∀ h, h < N → (tn h).length = columns data.length K) :
    offs N ((List.range N).filter keep) (((List.range N).filter keep).map tn) (polysL N T K data rnd) = ((List.range N).filter keep).filter (turned (polysL N T K data rnd) tn) := by
  have hPl := polysL_length N T K data rnd
  refine rising_eq (offs_rising _ _ _ _) (((range_rising N).filter _).filter _) fun x => ?_
  rw [offs_mem, List.mem_filter, List.mem_filter, List.mem_range]
  unfold Off
  constructor
  · rintro ⟨hx, c, hc, p, hp, rfl, hb⟩
    rw [zip_map_self] at hp
    obtain ⟨h, hh, rfl⟩ := List.mem_map.1 hp
    exact ⟨⟨hx, (List.mem_filter.1 hh).2⟩, turned_bad hc hb⟩
  · rintro ⟨⟨hx, hk⟩, ht⟩
    obtain ⟨c, hc, hb⟩ := (turned_some (by rw [htn x hx, hPl])).1 ht
    refine ⟨hx, c, hc, (x, tn x), ?_, rfl, hb⟩
    rw [zip_map_self]
    exact List.mem_map.2 ⟨x, List.mem_filter.2 ⟨List.mem_range.2 hx, hk⟩, rfl⟩
theorem never_found {qs : List (List UInt8)} {hs : List Nat} (hN : N + K ≤ 255) (hT : 1 ≤ T) (hTK : T + K ≤ 256) (hE : E ≤ 255)
    (h1 : (List.range N).countP (turned (polysL N T K data rnd) tn) ≤ E)
    (h : isFound N T K E ((columns data.length K : Nat) : Int) (((List.range N).filter keep).map fun (n : Nat) => (n : Int)) (((List.range N).filter keep).map tn) hs qs) : qs = polysL N T K data rnd := by
  have hPl := polysL_length N T K data rnd
  have e1 : hs = (List.range N).filter keep := by
    rw [h.hs, List.map_map]
    simp [Function.comp_def]
  obtain ⟨_, hf, he, hfo⟩ := h
  have hle := hf.le
  have hcn := count_le (N := N) (keep := keep) (P := polysL N T K data rnd) (tn := tn)
  rw [← e1] at hcn hfo
  refine ext_getD [] (by rw [hfo.len, hPl]; simp) fun c hc => ?_
  rw [hfo.len] at hc
  have hc' : c < columns data.length K := by simpa using hc
  have hb := count_bad (P := polysL N T K data rnd) (tn := tn) (hs := hs) (c := c) (by omega)
  obtain ⟨g1, g2, g3, g4⟩ := (good_iff (by simp) (by omega) (hf.unlike (by omega)) (by omega) hE).1 (hfo.good c hc)
  have hd := polysL_deg (N := N) (rnd := rnd) hc' hT
  rw [← g1, ← polysL_tl (N := N) (T := T) (rnd := rnd) hc']
  refine agree_two (n := T + K) (xs := ptsN hs) (ys := colN (hs.map tn) c) (hf.unlike (by omega)) (by omega) (by omega) ?_
  rw [ptsN_length, wrongL_count (by simp), wrongL_count (by simp)]
  omega
end
theorem offs_succ (h : Nat) (hs : List Nat) (rows qs : List (List UInt8)) : (Off hs rows qs h → offs (h + 1) hs rows qs = offs h hs rows qs ++ [h]) ∧ (¬ Off hs rows qs h → offs (h + 1) hs rows qs = offs h hs rows qs) := by
  unfold offs
  rw [List.range_succ, List.filter_append]
  refine ⟨fun k => ?_, fun k => ?_⟩
  · congr 1
    simp [k]
  · simp [k]
theorem offs_len (h : Nat) (hs : List Nat) (rows qs : List (List UInt8)) : (offs h hs rows qs).length ≤ h := by
  unfold offs
  have := List.length_filter_le (fun x => @decide (Off hs rows qs x) (Classical.propDecidable _)) (List.range h)
  rwa [List.length_range] at this
/-- Whom some truths tell. -/
def Tells (bl : List Bool) (N : Nat) (p : Nat → Prop) : Prop := bl.length = N ∧ ∀ h, h < N → (bl.getD h false = true ↔ p h)
theorem Tells.put {bl : List Bool} {N x : Nat} {p q : Nat → Prop} (h : Tells bl N p) (hx : x < N) (hq : ∀ h, h < N → (q h ↔ p h ∨ h = x)) : Tells (bl.set x true) N q := by
  refine ⟨by rw [List.length_set]; exact h.1, fun k hk => ?_⟩
  rw [hq k hk, ← h.2 k hk, getD_setL (by rw [h.1]; exact hx)]
  by_cases e : k = x
  · simp [e]
  · simp [e]
theorem Tells.same {bl : List Bool} {N : Nat} {p q : Nat → Prop} (h : Tells bl N p) (hq : ∀ h, h < N → (q h ↔ p h)) : Tells bl N q := ⟨h.1, fun k hk => (h.2 k hk).trans (hq k hk).symm⟩
theorem tells_none (N : Nat) : Tells (List.replicate N false) N fun _ => False := ⟨by simp, fun h hh => by simp [List.getD_eq_getElem?_getD, hh]⟩
end Go.Proofs.Ytccgbgjhjpllcaa
