/-
  The plain law of a slot on a disk: what its blocks are.
-/
import Derived.Test.YtaikdcnifijcoaaVStP
set_option linter.unusedVariables false
set_option linter.unusedSimpArgs false
namespace Go.Proofs.Ytaikdcnifijcoaa
open Go Go.Vc Go.Gf

/-- Some blocks, from a place on, are others. -/
def putBs (bl : List (List UInt8)) (base : Nat) (f : Nat → List UInt8) (i : Nat) : List (List UInt8) := (List.range bl.length).map fun j => if base ≤ j ∧ j < base + i then f (j - base) else bl.getD j []
theorem putBs_length (bl : List (List UInt8)) (base : Nat) (f : Nat → List UInt8) (i : Nat) : (putBs bl base f i).length = bl.length := by simp [putBs]
theorem putBs_getD {bl : List (List UInt8)} {base : Nat} {f : Nat → List UInt8} {i j : Nat} : (putBs bl base f i).getD j [] = if base ≤ j ∧ j < base + i ∧ j < bl.length then f (j - base) else bl.getD j [] := by
  by_cases hj : j < bl.length
  · simp only [putBs, List.getD_eq_getElem?_getD, List.getElem?_map, List.getElem?_range hj, Option.map_some, Option.getD_some]
    by_cases h : base ≤ j ∧ j < base + i
    · rw [if_pos h, if_pos ⟨h.1, h.2, hj⟩]
    · rw [if_neg h, if_neg fun k => h ⟨k.1, k.2.1⟩]
  · rw [if_neg fun k => hj k.2.2]
    simp [putBs, List.getD_eq_getElem?_getD, hj, List.getElem?_eq_none (show bl.length ≤ j by omega)]
theorem ext_blocks {l m : List (List UInt8)} (hl : l.length = m.length) (h : ∀ k, k < l.length → l.getD k [] = m.getD k []) : l = m := by
  refine List.ext_getElem hl fun k h1 h2 => ?_
  have := h k h1
  simpa [List.getD_eq_getElem?_getD, h1, h2] using this
theorem set_getD {l : List (List UInt8)} {i j : Nat} {v : List UInt8} (hi : i < l.length) : (l.set i v).getD j [] = if j = i then v else l.getD j [] := getD_setL hi
theorem putBs_succ {bl : List (List UInt8)} {base : Nat} {f : Nat → List UInt8} {i : Nat} (h : base + i < bl.length) : (putBs bl base f i).set (base + i) (f i) = putBs bl base f (i + 1) := by
  refine ext_blocks (by simp [putBs_length]) fun k hk => ?_
  rw [set_getD (by rw [putBs_length]; exact h), putBs_getD, putBs_getD]
  rw [List.length_set, putBs_length] at hk
  by_cases e : k = base + i
  · subst e
    rw [if_pos rfl, if_pos ⟨by omega, by omega, h⟩, show base + i - base = i by omega]
  · rw [if_neg e]
    by_cases e2 : base ≤ k ∧ k < base + i
    · rw [if_pos ⟨e2.1, e2.2, hk⟩, if_pos ⟨e2.1, by omega, hk⟩]
    · rw [if_neg fun x => e2 ⟨x.1, x.2.1⟩, if_neg fun x => e2 ⟨x.1, by omega⟩]
theorem putBs_zero (bl : List (List UInt8)) (base : Nat) (f : Nat → List UInt8) : putBs bl base f 0 = bl := by
  refine ext_blocks (putBs_length _ _ _ _) fun k hk => ?_
  rw [putBs_getD, if_neg (by omega)]
theorem putBs_32 {bl : List (List UInt8)} {base : Nat} {f : Nat → List UInt8} {i : Nat} (h : ∀ b ∈ bl, b.length = 32) (hf : ∀ i, (f i).length = 32) : ∀ b ∈ putBs bl base f i, b.length = 32 := by
  intro b hb
  obtain ⟨j, hj, rfl⟩ := List.mem_map.1 hb
  split
  · exact hf _
  · have hj := List.mem_range.1 hj
    refine h _ ?_
    rw [List.getD_eq_getElem?_getD, List.getElem?_eq_getElem hj]
    exact List.getElem_mem _
theorem set_32 {bl : List (List UInt8)} {i : Nat} {v : List UInt8} (h : ∀ b ∈ bl, b.length = 32) (hv : v.length = 32) : ∀ b ∈ bl.set i v, b.length = 32 := by
  intro b hb
  rcases List.mem_or_eq_of_mem_set hb with h1 | h1
  · exact h b h1
  · rw [h1]; exact hv
theorem pieceB_length (b : List UInt8) (i : Nat) : (pieceB b i).length = 32 := mk_length _ _
theorem zeroB_length : zeroB.length = 32 := by simp [zeroB]
theorem rootB_length (side n : Nat) : (rootB side n).length = 32 := by simp [rootB]
theorem pieceB_beyond {b : List UInt8} {i : Nat} (h : takesN b.length ≤ i) : pieceB b i = zeroB := by
  refine ext0 (by rw [pieceB_length, zeroB_length]) fun k hk => ?_
  rw [pieceB_length] at hk
  have h1 : b.length ≤ 32 * i + k := by unfold takesN at h; omega
  rw [pieceB, mk_getD, if_pos hk, zeroB, List.getD_eq_getElem?_getD, List.getElem?_eq_none h1, List.getD_eq_getElem?_getD, List.getElem?_replicate]
  split <;> rfl
theorem root_zero : rootB 0 0 = zeroB := by decide
/-- A slot's blocks on a disk, as one of its sides is what holds. -/
structure SltRel (s : Slt) (side : Nat) (bl : List (List UInt8)) : Prop where
  len : bl.length = 1 + 2 * s.room
  b32 : ∀ b ∈ bl, b.length = 32
  sd : side ≤ 1
  root : bl.getD 0 [] = rootB side s.kept.length
  own : ∀ i, i < s.room → bl.getD (1 + side * s.room + i) [] = pieceB s.kept i
  oth : s.pw.gone = false → ∀ i, i < s.room → bl.getD (1 + (1 - side) * s.room + i) [] = zeroB
  klen : s.kept.length ≤ 32 * s.room
  room : s.room ≤ 512
  left : -1 ≤ s.pw.left ∧ s.pw.left ≤ 9223372036854775807
theorem wr_left {p : Pw} (h : -1 ≤ p.left ∧ p.left ≤ 9223372036854775807) : -1 ≤ p.wr.left ∧ p.wr.left ≤ 9223372036854775807 := by
  unfold Pw.wr
  split
  · exact h
  · simp only; split <;> omega
theorem run_left {p : Pw} (h : -1 ≤ p.left ∧ p.left ≤ 9223372036854775807) : ∀ k, -1 ≤ (Pw.run k p).left ∧ (Pw.run k p).left ≤ 9223372036854775807
  | 0 => h
  | k + 1 => wr_left (run_left h k)
theorem takes_le {n room : Nat} (h : takesN n ≤ room) : n ≤ 32 * room := by unfold takesN at h; omega
theorem le_takes {n room : Nat} (h : n ≤ 32 * room) : takesN n ≤ room := by unfold takesN; omega
theorem side_two {side : Nat} (h : side ≤ 1) : side = 0 ∨ side = 1 := by omega
/-- The other side is written, and the power goes. -/
theorem SltRel.half {s : Slt} {side i : Nat} {bl : List (List UInt8)} {f : Nat → List UInt8} {p : Pw} (h : SltRel s side bl) (hi : i ≤ s.room) (hf : ∀ i, (f i).length = 32) (hp : p.gone = true) (hl : -1 ≤ p.left ∧ p.left ≤ 9223372036854775807) :
    SltRel { s with pw := p } side (putBs bl (1 + (1 - side) * s.room) f i) := by
  refine ⟨by rw [putBs_length]; exact h.len, putBs_32 h.b32 hf, h.sd, ?_, fun j hj => ?_, fun hg => ?_, h.klen, h.room, hl⟩
  · rw [putBs_getD, if_neg (by omega)]; exact h.root
  · rw [putBs_getD, if_neg]
    · exact h.own j hj
    · have hj : j < s.room := hj
      rcases side_two h.sd with rfl | rfl <;> simp <;> omega
  · have hg : p.gone = false := hg
    rw [hp] at hg; cases hg
/-- The root is written: the other side holds; the old one is cleared, up to a block. -/
theorem SltRel.turn {s : Slt} {side i : Nat} {bl : List (List UInt8)} {b : List UInt8} {p : Pw} (h : SltRel s side bl) (hg : s.pw.gone = false) (hb : takesN b.length ≤ s.room) (hi : i ≤ takesN s.kept.length) (hp : p.gone = false → i = takesN s.kept.length) (hl : -1 ≤ p.left ∧ p.left ≤ 9223372036854775807) :
    SltRel ⟨s.room, b, p⟩ (1 - side) (putBs ((putBs bl (1 + (1 - side) * s.room) (pieceB b) (takesN b.length)).set 0 (rootB (1 - side) b.length)) (1 + side * s.room) (fun _ => zeroB) i) := by
  have hk := le_takes h.klen
  have hlen := h.len
  have h0 : 0 < (putBs bl (1 + (1 - side) * s.room) (pieceB b) (takesN b.length)).length := by rw [putBs_length, hlen]; omega
  have hbl : ∀ j, j < s.room → 1 + (1 - side) * s.room + j < bl.length ∧ 1 + side * s.room + j < bl.length := fun j hj => by rcases side_two h.sd with rfl | rfl <;> simp <;> omega
  refine ⟨by rw [putBs_length, List.length_set, putBs_length]; exact hlen, putBs_32 (set_32 (putBs_32 h.b32 (pieceB_length b)) (rootB_length _ _)) (fun _ => zeroB_length), by omega, ?_, fun j hj => ?_, fun hgo j hj => ?_, takes_le hb, h.room, hl⟩
  · rw [putBs_getD, if_neg (by omega), set_getD h0, if_pos rfl]
  · have hj : j < s.room := hj
    show (putBs _ _ _ _).getD (1 + (1 - side) * s.room + j) [] = pieceB b j
    rw [putBs_getD, if_neg (by rcases side_two h.sd with rfl | rfl <;> simp <;> omega), set_getD h0, if_neg (by omega), putBs_getD]
    by_cases e : j < takesN b.length
    · rw [if_pos ⟨by omega, by omega, (hbl j hj).1⟩, show 1 + (1 - side) * s.room + j - (1 + (1 - side) * s.room) = j by omega]
    · rw [if_neg (by omega), pieceB_beyond (by omega)]
      exact h.oth hg j hj
  · have hj : j < s.room := hj
    have hie := hp hgo
    have e1 : 1 - (1 - side) = side := by have := h.sd; omega
    show (putBs _ _ _ _).getD (1 + (1 - (1 - side)) * s.room + j) [] = zeroB
    rw [e1, putBs_getD, List.length_set, putBs_length]
    by_cases e : j < i
    · rw [if_pos ⟨by omega, by omega, (hbl j hj).2⟩]
    · rw [if_neg (by omega), set_getD h0, if_neg (by omega), putBs_getD, if_neg (by rcases side_two h.sd with rfl | rfl <;> simp <;> omega), h.own j hj]
      exact pieceB_beyond (by omega)
theorem set_self {l : List (List UInt8)} {j : Nat} {v : List UInt8} (hj : j < l.length) (h : l.getD j [] = v) : l.set j v = l := by
  refine ext_blocks (by simp) fun k hk => ?_
  rw [set_getD hj]
  split
  · rename_i e; rw [e, h]
  · rfl
theorem SltRel.start {s : Slt} {side : Nat} {bl : List (List UInt8)} (h : SltRel s side bl) : SltRel s.start side (putBs bl (1 + (1 - side) * s.room) (fun _ => zeroB) s.room) := by
  have hbl : ∀ j, j < s.room → 1 + (1 - side) * s.room + j < bl.length := fun j hj => by rw [h.len]; rcases side_two h.sd with rfl | rfl <;> simp <;> omega
  refine ⟨by rw [putBs_length]; exact h.len, putBs_32 h.b32 fun _ => zeroB_length, h.sd, ?_, fun j hj => ?_, fun _ j hj => ?_, h.klen, h.room, by simp [Slt.start, pw0]⟩
  · rw [putBs_getD, if_neg (by omega)]; exact h.root
  · have hj : j < s.room := hj
    show (putBs _ _ _ _).getD (1 + side * s.room + j) [] = _
    rw [putBs_getD, if_neg (by rcases side_two h.sd with rfl | rfl <;> simp <;> omega)]
    exact h.own j hj
  · have hj : j < s.room := hj
    show (putBs _ _ _ _).getD (1 + (1 - side) * s.room + j) [] = _
    rw [putBs_getD, if_pos ⟨by omega, by omega, hbl j hj⟩]
theorem getD_zero {n i : Nat} (h : i < n) : (List.replicate n zeroB).getD i [] = zeroB := by simp [List.getD_eq_getElem?_getD, h]
theorem SltRel.new (room : Int) : SltRel (slt0 room) 0 (List.replicate (1 + 2 * (slt0 room).room) zeroB) := by
  have hr : (slt0 room).room ≤ 512 := by simp only [slt0]; omega
  refine ⟨by simp, fun b hb => by rw [List.eq_of_mem_replicate hb]; exact zeroB_length, by omega, ?_, fun i hi => ?_, fun _ i hi => ?_, by simp [slt0], hr, by simp [slt0, pw0]⟩
  · rw [getD_zero (by omega)]; exact root_zero.symm
  · rw [getD_zero (by omega), pieceB_beyond (by simp [slt0, takesN])]
  · rw [getD_zero (by omega)]
end Go.Proofs.Ytaikdcnifijcoaa
