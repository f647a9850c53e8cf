/-
  The walks of package slot.
-/
import Derived.Test.YtaikdcnifijcoaaGreatQ14
import Derived.Test.YtaikdcnifijcoaaGreatQ15
import Derived.Test.YtaikdcnifijcoaaGreatQ09
import Derived.Test.YtaikdcnifijcoaaGreatQ08
set_option linter.unusedVariables false
set_option linter.unusedSimpArgs false
namespace Go.Proofs.YtaikdcnifijcoaaGreat
open Go Go.Vc Go.Gf
/-- Some blocks, from a place on, are others. -/
def putBs (bl : List (List UInt8)) (base : Nat) (f : Nat → List UInt8) (i : Nat) : List (List UInt8) := (List.range bl.length).map fun j => if base ≤ j ∧ j < base + i then f (j - base) else bl.getD j []
theorem putBs_length (bl : List (List UInt8)) (base : Nat) (f : Nat → List UInt8) (i : Nat) : (putBs bl base f i).length = bl.length := by simp [putBs]
theorem putBs_getD {bl : List (List UInt8)} {base : Nat} {f : Nat → List UInt8} {i j : Nat} : (putBs bl base f i).getD j [] = if base ≤ j ∧ j < base + i ∧ j < bl.length then f (j - base) else bl.getD j [] := by
  by_cases hj : j < bl.length
  · simp only [putBs, List.getD_eq_getElem?_getD, List.getElem?_map, List.getElem?_range hj, Option.map_some, Option.getD_some]
    by_cases h : base ≤ j ∧ j < base + i
    · rw [if_pos h, if_pos ⟨h.1, h.2, hj⟩]
    · rw [if_neg h, if_neg fun k => h ⟨k.1, k.2.1⟩]
  · rw [if_neg fun k => hj k.2.2]
    simp [putBs, List.getD_eq_getElem?_getD, hj, List.getElem?_eq_none (show bl.length ≤ j by omega)]
theorem ext_blocks {l m : List (List UInt8)} (hl : l.length = m.length) (h : ∀ k, k < l.length → l.getD k [] = m.getD k []) : l = m := by
  refine List.ext_getElem hl fun k h1 h2 => ?_
  have := h k h1
  simpa [List.getD_eq_getElem?_getD, h1, h2] using this
theorem set_getD {l : List (List UInt8)} {i j : Nat} {v : List UInt8} (hi : i < l.length) : (l.set i v).getD j [] = if j = i then v else l.getD j [] := getD_setL hi
theorem putBs_succ {bl : List (List UInt8)} {base : Nat} {f : Nat → List UInt8} {i : Nat} (h : base + i < bl.length) : (putBs bl base f i).set (base + i) (f i) = putBs bl base f (i + 1) := by
  refine ext_blocks (by simp [putBs_length]) fun k hk => ?_
  rw [set_getD (by rw [putBs_length]; exact h), putBs_getD, putBs_getD]
  rw [List.length_set, putBs_length] at hk
  by_cases e : k = base + i
  · subst e
    rw [if_pos rfl, if_pos ⟨by omega, by omega, h⟩, show base + i - base = i by omega]
  · rw [if_neg e]
    by_cases e2 : base ≤ k ∧ k < base + i
    · rw [if_pos ⟨e2.1, e2.2, hk⟩, if_pos ⟨e2.1, by omega, hk⟩]
    · rw [if_neg fun x => e2 ⟨x.1, x.2.1⟩, if_neg fun x => e2 ⟨x.1, by omega⟩]
theorem putBs_zero (bl : List (List UInt8)) (base : Nat) (f : Nat → List UInt8) : putBs bl base f 0 = bl := by
  refine ext_blocks (putBs_length _ _ _ _) fun k hk => ?_
  rw [putBs_getD, if_neg (by omega)]
theorem putBs_32 {bl : List (List UInt8)} {base : Nat} {f : Nat → List UInt8} {i : Nat} (h : ∀ b ∈ bl, b.length = 32) (hf : ∀ i, (f i).length = 32) : ∀ b ∈ putBs bl base f i, b.length = 32 := by
  intro b hb
  obtain ⟨j, hj, rfl⟩ := List.mem_map.1 hb
  split
  · exact hf _
  · have hj := List.mem_range.1 hj
    refine h _ ?_
    rw [List.getD_eq_getElem?_getD, List.getElem?_eq_getElem hj]
    exact List.getElem_mem _
theorem set_32 {bl : List (List UInt8)} {i : Nat} {v : List UInt8} (h : ∀ b ∈ bl, b.length = 32) (hv : v.length = 32) : ∀ b ∈ bl.set i v, b.length = 32 := by
  intro b hb
  rcases List.mem_or_eq_of_mem_set hb with h1 | h1
  · exact h b h1
  · rw [h1]; exact hv
theorem pieceB_length (b : List UInt8) (i : Nat) : (pieceB b i).length = 32 := mk_length _ _
theorem zeroB_length : zeroB.length = 32 := by simp [zeroB]
theorem rootB_length (side n : Nat) : (rootB side n).length = 32 := by simp [rootB]
theorem pieceB_beyond {b : List UInt8} {i : Nat} (h : takesN b.length ≤ i) : pieceB b i = zeroB := by
  refine ext0 (by rw [pieceB_length, zeroB_length]) fun k hk => ?_
  rw [pieceB_length] at hk
  have h1 : b.length ≤ 32 * i + k := by unfold takesN at h; omega
  rw [pieceB, mk_getD, if_pos hk, zeroB, List.getD_eq_getElem?_getD, List.getElem?_eq_none h1, List.getD_eq_getElem?_getD, List.getElem?_replicate]
  split <;> rfl
theorem root_zero : rootB 0 0 = zeroB := by decide
/-- A slot's blocks on a disk, as one of its sides is what holds. -/
structure SltRel (s : Slt) (side : Nat) (bl : List (List UInt8)) : Prop where
  len : bl.length = 1 + 2 * s.room
  b32 : ∀ b ∈ bl, b.length = 32
  sd : side ≤ 1
  root : bl.getD 0 [] = rootB side s.kept.length
  own : ∀ i, i < s.room → bl.getD (1 + side * s.room + i) [] = pieceB s.kept i
  oth : s.pw.gone = false → ∀ i, i < s.room → bl.getD (1 + (1 - side) * s.room + i) [] = zeroB
  klen : s.kept.length ≤ 32 * s.room
  room : s.room ≤ 512
  left : -1 ≤ s.pw.left ∧ s.pw.left ≤ 9223372036854775807
theorem wr_left {p : Pw} (h : -1 ≤ p.left ∧ p.left ≤ 9223372036854775807) : -1 ≤ p.wr.left ∧ p.wr.left ≤ 9223372036854775807 := by
  unfold Pw.wr
  split
  · exact h
  · simp only; split <;> omega
theorem run_left {p : Pw} (h : -1 ≤ p.left ∧ p.left ≤ 9223372036854775807) : ∀ k, -1 ≤ (Pw.run k p).left ∧ (Pw.run k p).left ≤ 9223372036854775807
  | 0 => h
  | k + 1 => wr_left (run_left h k)
theorem takes_le {n room : Nat} (h : takesN n ≤ room) : n ≤ 32 * room := by unfold takesN at h; omega
theorem le_takes {n room : Nat} (h : n ≤ 32 * room) : takesN n ≤ room := by unfold takesN; omega
theorem side_two {side : Nat} (h : side ≤ 1) : side = 0 ∨ side = 1 := by omega
/-- The other side is written, and the power goes. -/
theorem SltRel.half {s : Slt} {side i : Nat} {bl : List (List UInt8)} {f : Nat → List UInt8} {p : Pw} (h : SltRel s side bl) (hi : i ≤ s.room) (hf : ∀ i, (f i).length = 32) (hp : p.gone = true) (hl : -1 ≤ p.left ∧ p.left ≤ 9223372036854775807) :
    SltRel { s with pw := p } side (putBs bl (1 + (1 - side) * s.room) f i) := by
  refine ⟨by rw [putBs_length]; exact h.len, putBs_32 h.b32 hf, h.sd, ?_, fun j hj => ?_, fun hg => ?_, h.klen, h.room, hl⟩
  · rw [putBs_getD, if_neg (by omega)]; exact h.root
  · rw [putBs_getD, if_neg]
    · exact h.own j hj
    · have hj : j < s.room := hj
      rcases side_two h.sd with rfl | rfl <;> simp <;> omega
  · have hg : p.gone = false := hg
    rw [hp] at hg; cases hg
/-- The root is written: the other side holds; the old one is cleared, up to a block. -/
theorem SltRel.turn {s : Slt} {side i : Nat} {bl : List (List UInt8)} {b : List UInt8} {p : Pw} (h : SltRel s side bl) (hg : s.pw.gone = false) (hb : takesN b.length ≤ s.room) (hi : i ≤ takesN s.kept.length) (hp : p.gone = false → i = takesN s.kept.length) (hl : -1 ≤ p.left ∧ p.left ≤ 9223372036854775807) :
    SltRel ⟨s.room, b, p⟩ (1 - side) (putBs ((putBs bl (1 + (1 - side) * s.room) (pieceB b) (takesN b.length)).set 0 (rootB (1 - side) b.length)) (1 + side * s.room) (fun _ => zeroB) i) := by
  have hk := le_takes h.klen
  have hlen := h.len
  have h0 : 0 < (putBs bl (1 + (1 - side) * s.room) (pieceB b) (takesN b.length)).length := by rw [putBs_length, hlen]; omega
  have hbl : ∀ j, j < s.room → 1 + (1 - side) * s.room + j < bl.length ∧ 1 + side * s.room + j < bl.length := fun j hj => by rcases side_two h.sd with rfl | rfl <;> simp <;> omega
  refine ⟨by rw [putBs_length, List.length_set, putBs_length]; exact hlen, putBs_32 (set_32 (putBs_32 h.b32 (pieceB_length b)) (rootB_length _ _)) (fun _ => zeroB_length), by omega, ?_, fun j hj => ?_, fun hgo j hj => ?_, takes_le hb, h.room, hl⟩
  · rw [putBs_getD, if_neg (by omega), set_getD h0, if_pos rfl]
  · have hj : j < s.room := hj
    show (putBs _ _ _ _).getD (1 + (1 - side) * s.room + j) [] = pieceB b j
    rw [putBs_getD, if_neg (by rcases side_two h.sd with rfl | rfl <;> simp <;> omega), set_getD h0, if_neg (by omega), putBs_getD]
    by_cases e : j < takesN b.length
    · rw [if_pos ⟨by omega, by omega, (hbl j hj).1⟩, show 1 + (1 - side) * s.room + j - (1 + (1 - side) * s.room) = j by omega]
    · rw [if_neg (by omega), pieceB_beyond (by omega)]
      exact h.oth hg j hj
  · have hj : j < s.room := hj
    have hie := hp hgo
    have e1 : 1 - (1 - side) = side := by have := h.sd; omega
    show (putBs _ _ _ _).getD (1 + (1 - (1 - side)) * s.room + j) [] = zeroB
    rw [e1, putBs_getD, List.length_set, putBs_length]
    by_cases e : j < i
    · rw [if_pos ⟨by omega, by omega, (hbl j hj).2⟩]
    · rw [if_neg (by omega), set_getD h0, if_neg (by omega), putBs_getD, if_neg (by rcases side_two h.sd with rfl | rfl <;> simp <;> omega), h.own j hj]
      exact pieceB_beyond (by omega)
theorem getD_zero {n i : Nat} (h : i < n) : (List.replicate n zeroB).getD i [] = zeroB := by simp [List.getD_eq_getElem?_getD, h]
theorem SltRel.new (room : Int) : SltRel (slt0 room) 0 (List.replicate (1 + 2 * (slt0 room).room) zeroB) := by
  have hr : (slt0 room).room ≤ 512 := by simp only [slt0]; omega
  refine ⟨by simp, fun b hb => by rw [List.eq_of_mem_replicate hb]; exact zeroB_length, by omega, ?_, fun i hi => ?_, fun _ i hi => ?_, by simp [slt0], hr, by simp [slt0, pw0]⟩
  · rw [getD_zero (by omega)]; exact root_zero.symm
  · rw [getD_zero (by omega), pieceB_beyond (by simp [slt0, takesN])]
  · rw [getD_zero (by omega)]
end Go.Proofs.YtaikdcnifijcoaaGreat
set_option linter.unusedVariables false
set_option linter.unusedSimpArgs false
namespace Go.Proofs.YtaikdcnifijcoaaGreat
open Go Go.Vc Go.Gf
/-- A slot: its disk is the owner's, it itself is nobody's. -/
def SlotAt (H : Heap) (O : Ow) (k sb : Nat) (s : Slt) : Prop := ∃ db bl side, Blk H sb 197 [ptrD db, I64 s.room] ∧ O sb = 0 ∧ DiskAt H O k db bl s.pw ∧ SltRel s side bl
theorem SlotAt.step {S : Nat → Prop} {H H' : Heap} {O O' : Ow} {k sb : Nat} {s : Slt} (h : SlotAt H O k sb s) (st : Step S H O H' O') (hk : ¬ S k) (h0 : ¬ S 0) : SlotAt H' O' k sb s := by
  obtain ⟨db, bl, side, h1, h2, h3, h4⟩ := h
  exact ⟨db, bl, side, h1.step st (by rw [h2]; exact h0), st.own h1.lt h2, h3.step st hk, h4⟩
theorem SlotAt.ext {H H' : Heap} {O : Ow} {k sb : Nat} {s : Slt} (h : SlotAt H O k sb s) (w : WfO H O) (e : Ext H H') : SlotAt H' O k sb s := h.step (S := fun _ => False) (e.step w) id id
theorem takes_ok (n : Nat) (H : Heap) (hn : n ≤ 1000000000000) : CallsH Tryz.prog 139 [I64 n] H fun v H' => v = I64 (takesN n) ∧ H = H' := by
  refine CallsH.enter h139 Tryz.func139 rfl rfl rfl (by decide) fun u => run ?_
  refine ret1 ⟨?_, rfl⟩
  rw [takesN, show n + 32 - 1 = n + 31 by omega]
theorem mk_add (m n : Nat) (f : Nat → UInt8) : mk (m + n) f = mk m f ++ mk n fun j => f (m + j) := by
  simp only [mk, List.range_add, List.map_append, List.map_map, Function.comp_def]
theorem flat_take' {b : List UInt8} {i : Nat} (h : b.length ≤ 32 * i) : (mk (32 * i) fun j => b.getD j 0).take b.length = b := by
  refine ext0 (by rw [List.length_take, mk_length]; omega) fun k hk => ?_
  rw [List.length_take, mk_length] at hk
  have hk2 : k < 32 * i := by omega
  rw [List.getD_eq_getElem?_getD, List.getElem?_take, if_pos (by omega), ← List.getD_eq_getElem?_getD, mk_getD, if_pos hk2]
theorem root_four {n : Nat} (h : n ≤ 16384) : (0 <<< 24 ||| 0 <<< 16 ||| (n / 256) <<< 8) ||| n % 256 = n := by
  have h1 := Nat.shiftLeft_add_eq_or_of_lt (i := 8) (b := n % 256) (by omega) (n / 256)
  simp only [Nat.zero_shiftLeft, Nat.zero_or]
  rw [← h1, Nat.shiftLeft_eq]
  omega
theorem rootB_at {side n : Nat} (hs : side ≤ 1) (h : n ≤ 16384) : ((rootB side n).getD 0 0).toNat = side ∧ ((rootB side n).getD 1 0).toNat = 0 ∧ ((rootB side n).getD 2 0).toNat = 0 ∧ ((rootB side n).getD 3 0).toNat = n / 256 ∧ ((rootB side n).getD 4 0).toNat = n % 256 := by
  refine ⟨?_, ?_, ?_, ?_, ?_⟩ <;> simp [rootB, Nat.shiftRight_eq_div_pow] <;> omega
section
variable {H : Heap} {O : Ow} {k sb db : Nat} {s : Slt}
theorem block_ok (side n : Nat) (hs : side ≤ 1) (hn : n ≤ 1000000) (hr : s.room ≤ 512) (h : Blk H sb 197 [ptrD db, I64 s.room]) : CallsH Tryz.prog 141 [ptrD sb, I64 side, I64 n] H fun v H' => v = I64 (1 + side * s.room + n) ∧ H = H' := by
  refine CallsH.enter h141 Tryz.func141 rfl rfl rfl (by decide) fun u => go ?_
  have hm : side * s.room ≤ 512 := by rcases side_two hs with rfl | rfl <;> simp <;> omega
  have hm2 : side * s.room ≤ 9223372036854775807 := by omega
  refine run ?_
  exact ret1 ⟨rfl, rfl⟩
set_option maxHeartbeats 400000 in
theorem root_ok {p : Pw} {bl : List (List UInt8)} {side : Nat} (hb : Blk H sb 197 [ptrD db, I64 s.room]) (hd : DiskAt H O k db bl p) (hr : SltRel s side bl) (hw : WfO H O) :
    CallsH Tryz.prog 138 [ptrD sb] H fun v H' => v = .agg #[I64 side, I64 s.kept.length] ∧ Ext H H' := by
  refine CallsH.enter h138 Tryz.func138 rfl rfl rfl (by decide) fun u => go ?_
  refine RegS.allocA fun H1 x1 z1 b1 => ?_
  have hb1 := hb.ext x1
  have hd1 := hd.ext hw x1
  have b1 : Blk H1 H.size 192 [IV 0, IV 0] := b1
  refine run ?_
  refine RegS.call (read_ok 0 (by rw [hr.len]; omega) hr.b32 hd1) ?_
  rintro _ H2 ⟨c, rfl, oc, x2⟩
  have b2 := b1.ext x2
  have rc := OwnR.rowF (f := B8) (dd := 0) oc
  rw [hr.root] at rc
  have hk : s.kept.length ≤ 16384 := by have := hr.klen; have := hr.room; omega
  obtain ⟨e0, e1, e2, e3, e4⟩ := rootB_at hr.sd hk
  have hlr := rootB_length side s.kept.length
  have hfour := root_four hk
  generalize rootB side s.kept.length = l at rc e0 e1 e2 e3 e4 hlr
  have hide : ∃ _x : Unit, (l.getD 0 0).toNat = side ∧ (l.getD 1 0).toNat = 0 ∧ (l.getD 2 0).toNat = 0 ∧ (l.getD 3 0).toNat = s.kept.length / 256 ∧ (l.getD 4 0).toNat = s.kept.length % 256 := ⟨(), e0, e1, e2, e3, e4⟩
  clear e0 e1 e2 e3 e4
  refine RegS.r ?_
  refine RegS.r ?_
  refine RegS.r ?_
  refine RegS.r ?_
  refine RegS.r ?_
  refine RegS.fin ?_
  refine thenQ_n ?_
  refine Wp.seq ?_
  refine Wp.regD ?_
  iterate 8 refine RegP.r' ?_
  obtain ⟨_, e0, e1, e2, e3, e4⟩ := hide
  have s1 : (l.getD 1 0).toNat <<< 24 ≤ 9223372036854775807 := by rw [e1]; decide
  have s2 : (l.getD 2 0).toNat <<< 16 ≤ 9223372036854775807 := by rw [e2]; decide
  have s3 : (l.getD 3 0).toNat <<< 8 ≤ 9223372036854775807 := by rw [e3, Nat.shiftLeft_eq]; omega
  have s4 : ((l.getD 1 0).toNat <<< 24 ||| (l.getD 2 0).toNat <<< 16) ≤ 9223372036854775807 := by rw [e1, e2]; decide
  have s5 : ((l.getD 1 0).toNat <<< 24 ||| (l.getD 2 0).toNat <<< 16 ||| (l.getD 3 0).toNat <<< 8) ≤ 9223372036854775807 := by
    rw [e1, e2, e3, Nat.zero_shiftLeft, Nat.zero_shiftLeft, Nat.zero_or, Nat.zero_or, Nat.shiftLeft_eq]; omega
  have s6 : (l.getD 4 0).toNat ≤ 9223372036854775807 := by rw [e4]; omega
  have hfin : (l.getD 1 0).toNat <<< 24 ||| (l.getD 2 0).toNat <<< 16 ||| (l.getD 3 0).toNat <<< 8 ||| (l.getD 4 0).toNat = s.kept.length := by rw [e1, e2, e3, e4]; exact hfour
  refine RegP.r' (h := Rd.shlN rfl rfl rfl (by omega) s1) ?_
  iterate 4 refine RegP.r' ?_
  refine RegP.r' (h := Rd.shlN rfl rfl rfl (by omega) s2) ?_
  refine RegP.r' (h := Rd.orN rfl rfl rfl ⟨s1, s2⟩) ?_
  iterate 4 refine RegP.r' ?_
  refine RegP.r' (h := Rd.shlN rfl rfl rfl (by omega) s3) ?_
  refine RegP.r' (h := Rd.orN rfl rfl rfl ⟨s4, s3⟩) ?_
  iterate 4 refine RegP.r' ?_
  refine RegP.r' (h := Rd.orN rfl rfl rfl ⟨s5, s6⟩) ?_
  rw [hfin, e0]
  refine RegP.r' ?_
  refine RegP.storeA b2 ?_ ?_
  · exact Proms.nil
  have b3 : Blk (hsets H2 H.size 0 [I64 side, I64 s.kept.length]) H.size 192 [I64 side, I64 s.kept.length] := Blk.sets [I64 side, I64 s.kept.length] 0 b2
  have x3 : Ext H (hsets H2 H.size 0 [I64 side, I64 s.kept.length]) := (x1.trans x2).then (hsets_chg H.size [I64 side, I64 s.kept.length] 0 H2) fun b hb => by omega
  refine run ?_
  exact retA1 b3 ⟨rfl, x3⟩
set_option maxHeartbeats 4000000 in
theorem load_ok (h : SlotAt H O k sb s) (hw : WfO H O) : CallsH Tryz.prog 70 [ptrD sb] H fun v H' => ∃ c : Sl, v = c.val ∧ Bytes H' c s.kept ∧ Ext H H' ∧ ∀ b, c.blk = some b → H.size ≤ b := by
  obtain ⟨db, bl, side, hb, h0, hd, hr⟩ := h
  have hk : s.kept.length ≤ 16384 := by have := hr.klen; have := hr.room; omega
  refine CallsH.enter h70 Tryz.func70 rfl rfl rfl (by decide) fun u => run ?_
  refine RegS.call (root_ok hb hd hr hw) ?_
  rintro _ H1 ⟨rfl, x1⟩
  refine run ?_
  refine RegS.allocA fun H2 x2 z2 b2 => ?_
  have b2 : Blk H2 H1.size 192 [IV 0, IV 0] := b2
  refine run ?_
  refine RegS.storeA b2 ?_
  have b3 : Blk (hsets H2 H1.size 0 [I64 side, I64 s.kept.length]) H1.size 192 [I64 side, I64 s.kept.length] := Blk.sets [I64 side, I64 s.kept.length] 0 b2
  have x3 : Ext H1 (hsets H2 H1.size 0 [I64 side, I64 s.kept.length]) := x2.then (hsets_chg H1.size [I64 side, I64 s.kept.length] 0 H2) fun b hb => by omega
  generalize hsets H2 H1.size 0 [I64 side, I64 s.kept.length] = H3 at b3 x3 ⊢
  have x03 := x1.trans x3
  refine run ?_
  refine RegS.q (h := Rd.eqlII rfl rfl rfl rfl (by kernel_rfl) (by kernel_rfl) (by decide) (by decide) rfl rfl rfl rfl) ?_
  refine run ?_
  refine Wp.br (fun hz => ?_) (fun hz => ?_)
  · have hz : (side : Int) = 0 ∧ (s.kept.length : Int) = 0 := hz
    have : s.kept = [] := List.eq_nil_of_length_eq_zero (by omega)
    refine run ?_
    exact ret1 ⟨Sl.nil, rfl, by rw [this]; exact Bytes.nil _, x03, fun b hb => by simp [Sl.blk, Sl.nil] at hb⟩
  refine run ?_
  refine RegS.makeRoom (n := s.kept.length) ?_ ?_ (fun H4 o4 x4 z4 => ?_)
  · omega
  · omega
  have b4 := b3.ext x4
  have o4' : OwnF B8 H4 H3.size 5 (Sl.room H3.size s.kept.length) [] := o4
  have x04 := x03.trans x4
  have hb4 := hb.ext x03
  have hd4 := hd.ext hw x03
  have w4 := hw.ext x03
  refine run ?_
  refine RegS.call (takes_ok s.kept.length H4 (by omega)) ?_
  rintro _ _ ⟨rfl, rfl⟩
  have htk := le_takes hr.klen
  have hroom := hr.room
  have hsd : side * s.room ≤ 512 := by rcases side_two hr.sd with e | e <;> rw [e] <;> omega
  have hsb : ∀ i, i < s.room → 1 + side * s.room + i < bl.length := fun i hi => by rw [hr.len]; rcases side_two hr.sd with e | e <;> rw [e] <;> omega
  refine run ?_
  generalize Sl.room H3.size s.kept.length = c0 at o4'
  refine Wp.loop (ι := Nat × Sl) (fun i => [(0, ptrD sb), (3, ptrD H1.size), (4, i.2.val), (20, I64 (takesN s.kept.length)), (21, I64 i.1)]) (fun i A => i.1 ≤ takesN s.kept.length ∧ OwnF B8 A H3.size 5 i.2 (mk (32 * i.1) fun j => s.kept.getD j 0) ∧ Ext H3 A) (fun i => takesN s.kept.length - i.1) (0, c0) subs ⟨Nat.zero_le _, o4', x4⟩ ?_
  rintro ⟨i, c⟩ A ⟨hi, oA, xA⟩
  have hi : i ≤ takesN s.kept.length := hi
  have oA : OwnF B8 A H3.size 5 c (mk (32 * i) fun j => s.kept.getD j 0) := oA
  have xA : Ext H3 A := xA
  have bA := b3.ext xA
  have hbA := hb4.ext xA
  have dA := hd4.ext w4 xA
  have cl := oA.rowF (f := B8) (dd := 0)
  have cll := cl.len
  rw [mk_length] at cll
  have cle := c.le
  show Wp _ _ _ [(0, ptrD sb), (3, ptrD H1.size), (4, c.val), (20, I64 (takesN s.kept.length)), (21, I64 i)] _ _
  refine run ?_
  refine Wp.br (fun hlt => ?_) (fun hlt => ?_)
  case refine_2 =>
    have hlt : ¬ (i : Int) < (takesN s.kept.length : Int) := hlt
    have hie : i = takesN s.kept.length := by omega
    have hlen : s.kept.length ≤ 32 * i := by rw [hie]; unfold takesN; omega
    have hh : 0 ≤ s.kept.length ∧ s.kept.length ≤ s.kept.length ∧ s.kept.length ≤ c.cap := by omega
    refine run ?_
    refine RegS.cut 0 s.kept.length s.kept.length (.inl ⟨rfl, rfl⟩) (.inr ⟨_, _, rfl, rfl⟩) (.inr ⟨_, _, rfl, rfl⟩) hh ?_
    have hc := Bytes.cut cl hh (by rw [mk_length]; omega)
    rw [List.drop_zero, flat_take' hlen] at hc
    refine run ?_
    exact ret1 ⟨_, rfl, hc, x03.trans xA, fun b hb' => by have := (oA.blk_ge (Sl.cut_blk hb')).1; have := x03.size; omega⟩
  have hlt : (i : Int) < (takesN s.kept.length : Int) := hlt
  have hir : i < s.room := by omega
  refine run ?_
  refine RegP.call (block_ok side i hr.sd (by omega) hroom hbA) ?_
  rintro _ _ ⟨rfl, rfl⟩
  refine ⟨.inl (Ext.refl _), ?_⟩
  refine run ?_
  refine RegP.call (read_ok (1 + side * s.room + i) (hsb i hir) hr.b32 dA) ?_
  rintro _ A1 ⟨pc, rfl, op, x5⟩
  refine ⟨.inl x5, ?_⟩
  rw [hr.own i hir] at op
  have rp := op.rowF (f := B8) (dd := 0)
  have oA1 := oA.ext x5
  have z5 := x5.size
  have zA := xA.size
  have zA3 := x4.size
  refine run ?_
  refine RegS.append (f := B8) oA1 rp (fun _ => rfl) (by omega) ?_ ?_ ?_
  · rw [mk_length, pieceB_length]; omega
  · rw [mk_length, pieceB_length]; omega
  intro c' A2 o2 c2 b2'
  rw [pieceB, ← mk_add] at o2
  refine run ?_
  exact roundQ_n (i + 1, c') subs ⟨by simp only; omega, by simp only [Nat.mul_add, Nat.mul_one]; exact o2, (xA.trans x5).then c2 fun b hb' => by have := (oA.blk_ge hb').1; omega⟩ (by simp only; omega)
theorem snew_ok (room : Int) (hw : WfO H O) (hk : k ≠ 0) : CallsH Tryz.prog 126 [IV room] H fun v H' => ∃ sb O', v = ptrD sb ∧ Step (fun _ => False) H O H' O' ∧ SlotAt H' O' k sb (slt0 room) ∧ H.size ≤ sb := by
  have hr : (slt0 room).room ≤ 512 := by simp only [slt0]; omega
  refine CallsH.enter h126 Tryz.func126 rfl rfl rfl (by decide) fun u => run ?_
  rw [show min (max room ((0 : Nat) : Int)) ((512 : Nat) : Int) = (((slt0 room).room : Nat) : Int) by simp only [slt0]; omega]
  refine run ?_
  refine RegS.call (dnew_ok (O := O) (k := k) (1 + 2 * (slt0 room).room) hw (by omega) hk) ?_
  rintro _ H1 ⟨db, O', rfl, st, hd, hdb⟩
  refine run ?_
  refine RegS.boxA fun H2 x2 z2 b2 => ?_
  refine run ?_
  have st2 : Step (fun _ => False) H1 O' H2 O' := x2.step st.wf
  have s1 := st.size
  exact ret1 ⟨H1.size, O', rfl, st.trans st2, ⟨db, _, 0, b2, st.wf.new _ (Nat.le_refl _), hd.step st2 id, SltRel.new room⟩, s1⟩
theorem sdown_ok (h : SlotAt H O k sb s) : CallsH Tryz.prog 108 [ptrD sb] H fun v H' => v = .bool s.pw.gone ∧ H = H' := by
  obtain ⟨db, bl, side, hb, h0, hd, hr⟩ := h
  refine CallsH.enter h108 Tryz.func108 rfl rfl rfl (by decide) fun u => run ?_
  refine RegS.call (ddown_ok hd) ?_
  rintro _ _ ⟨rfl, rfl⟩
  refine run ?_
  exact ret1 ⟨rfl, rfl⟩
end
end Go.Proofs.YtaikdcnifijcoaaGreat
