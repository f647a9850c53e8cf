/-
  The walks of packages stripe and deal: a document's columns, pieces of random bytes, shares.
-/
import Derived.Test.YtgmemfcfjlndoaaGreatVOpenK
import Derived.Test.YtgmemfcfjlndoaaGreatVRef10b
import Derived.Test.YtgmemfcfjlndoaaGreatVcRangeW
set_option linter.unusedVariables false
set_option linter.unusedSimpArgs false
namespace Go.Proofs.YtgmemfcfjlndoaaGreat
open Go Go.Vc Go.Gf

def pieceL (data : List UInt8) (K k : Nat) : List UInt8 := (data.drop (k * K)).take K
theorem pieceL_length (data : List UInt8) (K k : Nat) : (pieceL data K k).length = min K (data.length - k * K) := by simp [pieceL]
theorem chunk_ok (s : Sl) (K : Nat) (hK : 1 ≤ K) (H : Heap) : CallsH Tryz.prog 227 [s.val, I64 K] H fun v H' => ∃ b c, v = .func (.func 249) #[] #[.pointer (some ⟨b, 0, none⟩), .pointer (some ⟨c, 0, none⟩)] ∧ Box H' b 36 s.val ∧ Box H' c 3 (I64 K) ∧ Ext H H' ∧ H.size ≤ b ∧ H.size ≤ c := by
  refine CallsH.enter h227 Tryz.func227 rfl rfl rfl (by decide) fun u => go ?_
  refine RegS.box (fun H1 e1 z1 b1 => ?_)
  refine go ?_
  refine RegS.box (fun H2 e2 z2 b2 => ?_)
  have c2 : Box H2 H1.size 3 (I64 K) := ⟨b2⟩
  refine go ?_
  exact ret1 ⟨_, _, rfl, Box.ext ⟨b1⟩ e2, c2, e1.trans e2, Nat.le_refl _, by omega⟩
theorem chunk1_iter (s : Sl) (data : List UInt8) (K b c : Nat) (hK : 1 ≤ K) (hK2 : K ≤ 255) (hl : data.length ≤ 2097152) : IterW Tryz.prog 249 [.pointer (some ⟨b, 0, none⟩), .pointer (some ⟨c, 0, none⟩)] (columns data.length K)
    (fun k A vs => ∃ t : Sl, vs = [t.val] ∧ Bytes A t (pieceL data K k)) (fun A => Box A b 36 s.val ∧ Box A c 3 (I64 K) ∧ Bytes A s data) := by
  have hcl := columns_le (size := data.length) hK
  intro y J Jx H hpre hext hextx hY h0
  refine CallsH.enter h249 Tryz.func249 rfl rfl rfl (by decide) fun u => go ?_
  refine Wp.loop (ι := Nat) (fun k => [(0, .func (.yield y) #[] #[]), (1, .pointer (some ⟨b, 0, none⟩)), (2, .pointer (some ⟨c, 0, none⟩)), (4, I64 (k * K))]) (fun k A => k ≤ columns data.length K ∧ J k A) (fun k => columns data.length K - k) 0 ⟨rfl, rfl, rfl, get_int rfl (by simp), trivial⟩ ⟨Nat.zero_le _, h0⟩ ?_
  rintro k A ⟨hk, hJ⟩
  obtain ⟨hb, hc, hbs⟩ := hpre _ _ hJ
  have hsl : s.len = data.length := hbs.len
  have hle := s.le
  have hsk : (k + 1) * K = k * K + K := Nat.succ_mul k K
  refine go ?_
  refine Wp.br (fun h => ?_) (fun h => ?_)
  case refine_2 =>
    have h : ¬ ((k * K : Nat) : Int) < (data.length : Int) := h
    have : k = columns data.length K := by
      have := (col_lt (n := data.length) (c := k) hK).2
      omega
    subst this
    refine go ?_
    exact ret0n (.inl hJ)
  have h : ((k * K : Nat) : Int) < (data.length : Int) := h
  have hkk : k < columns data.length K := (col_lt hK).1 (by omega)
  have hh1 : k * K ≤ s.len ∧ s.len ≤ s.cap ∧ s.cap ≤ s.cap := by omega
  refine go ?_
  refine RegP.cut (k * K) s.len s.cap (.inr ⟨_, _, rfl, rfl⟩) (.inl ⟨rfl, rfl, rfl⟩) (.inl ⟨rfl, rfl⟩) hh1 ?_
  have hc1 := hbs.cut hh1 (by omega)
  have hcl1 : ((data.take s.len).drop (k * K)).length = data.length - k * K := by simp only [List.length_drop, List.length_take]; omega
  refine go ?_
  generalize hm : min K (((data.take s.len).drop (k * K)).length) = m
  have hm' : m ≤ K ∧ m ≤ data.length - k * K ∧ m = min K (data.length - k * K) := by omega
  have hh2 : k * K ≤ k * K + m ∧ k * K + m ≤ k * K + m ∧ k * K + m ≤ s.cap := by omega
  refine RegS.cut (k * K) (k * K + m) (k * K + m) (.inr ⟨_, _, rfl, rfl⟩) (.inr ⟨_, _, rfl, rfl⟩) (.inr ⟨_, _, rfl, rfl⟩) hh2 ?_
  have hc2 := hbs.cut hh2 (by omega)
  have hce : (data.take (k * K + m)).drop (k * K) = pieceL data K k := by
    rw [List.drop_take, pieceL, show k * K + m - k * K = m by omega, hm'.2.2]
    rw [show min K (data.length - k * K) = min K ((data.drop (k * K)).length) by rw [List.length_drop], List.take_eq_take_min (i := K)]
  rw [hce] at hc2
  refine go ?_
  refine RegS.yieldC (hY k A _ hkk hJ ⟨_, rfl, hc2⟩) ?_
  rintro v H2 (⟨rfl, hJ'⟩ | ⟨rfl, hJ'⟩) <;> refine go ?_
  · obtain ⟨hb2, hc3, hbs2⟩ := hpre _ _ hJ'
    refine go ?_
    refine roundQ_n (k + 1) ⟨rfl, rfl, rfl, get_int rfl (by rw [hsk]), trivial⟩ ⟨by omega, hJ'⟩ (by omega)
  · exact ret0 (.inr hJ')
/-- A document's columns, as the program makes them. -/
theorem piece_col {data : List UInt8} {K k : Nat} : (pieceL data K k).length ≤ K ∧ pieceL data K k ++ List.replicate (K - (pieceL data K k).length) 0 = mk K fun i => data.getD (k * K + i) 0 := by
  have hl := pieceL_length data K k
  refine ⟨by omega, ext0 (by rw [List.length_append, List.length_replicate, mk_length]; omega) fun i hi => ?_⟩
  rw [List.length_append, List.length_replicate] at hi
  rw [mk_getD, if_pos (by omega), getD_append]
  split
  · rename_i h
    simp only [pieceL, List.getD_eq_getElem?_getD, List.getElem?_take, List.getElem?_drop]
    rw [if_pos (by omega)]
  · rename_i h
    rw [getD_ge (l := data) (by omega)]
    simp [List.getD_eq_getElem?_getD, List.getElem?_replicate]
    split <;> rfl
set_option maxHeartbeats 2000000 in
theorem splitP_ok (s : Sl) (data : List UInt8) (K : Nat) (H : Heap) (hs : Bytes H s data) (hl : data.length ≤ 2097152) (hK : 1 ≤ K) (hK2 : K ≤ 255) :
    CallsH Tryz.prog 169 [s.val, I64 K] H fun v H' => ∃ (a : Sl) (ss : List Sl), v = a.val ∧ Mat H' H.size 36 a ss (splitL data K) ∧ Ext H H' := by
  have hcl := columns_le (size := data.length) hK
  refine CallsH.enter h169 Tryz.func169 rfl rfl rfl (by decide) fun u => go ?_
  refine RegS.box (fun H1 e1 z1 b1 => ?_)
  have c1 : Box H1 H.size 3 (I64 K) := ⟨b1⟩
  refine go ?_
  refine RegS.alloc (fun H2 e2 z2 b2 => ?_)
  have c2 : Box H2 H1.size 31 Sl.nil.val := ⟨b2⟩
  have c1' := c1.ext e2
  have x02 := e1.trans e2
  refine go ?_
  refine RegS.call (chunk_ok s K hK H2) ?_
  rintro _ H3 ⟨ob, oc, rfl, cb, cc, e3, gb, gc⟩
  have x03 := x02.trans e3
  have n2 := x02.size
  have n3 := e3.size
  have lob := cb.lt
  have loc := cc.lt
  refine go ?_
  refine Wp.rangeW (chunk1_iter s data K ob oc hK hK2 hl) (fun k vs => [(3, fieldV H.size), (5, fieldV H1.size), (6, vs.getD 0 undef)])
    (fun k A => Ext H A ∧ Box A H.size 3 (I64 K) ∧ (∃ (a : Sl) (ss : List Sl), Box A H1.size 31 a.val ∧ Mat A (H3.size + 2) 36 a ss ((splitL data K).take k)) ∧ Box A ob 36 s.val ∧ Box A oc 3 (I64 K))
    (fun e A => False) ?_ ?_ ?_ ?_ ?_ ?_ ?_ ?_ ?_ ?_
  · rintro k A ⟨i1, i2, i3, i4, i5⟩
    exact ⟨i4, i5, hs.ext i1⟩
  · rintro k A A' ⟨i1, i2, ⟨a, ss, i3, i3'⟩, i4, i5⟩ kk
    exact ⟨kk.above i1 (by omega), i2.keep kk, ⟨a, ss, i3.keep kk, i3'.keep kk⟩, i4.keep kk, i5.keep kk⟩
  · rintro e A A' h; exact h.elim
  · rintro k A A' vs ⟨t, rfl, ht⟩ kk
    exact ⟨t, rfl, ht.keep kk⟩
  · rintro k A vs ⟨t, rfl, ht⟩
    rfl
  · exact ⟨x03, c1'.ext e3, ⟨Sl.nil, [], c2.ext e3, Mat.nil _ _ _⟩, cb, cc⟩
  · rintro u l k A vs hk _ ⟨t, rfl, ht⟩
    refine go ?_
    exact ⟨rfl, rfl, rfl, rfl, rfl, rfl, trivial⟩
  · rintro u l k A vs nA hk ⟨i1, i2, ⟨a, ss, i3, i3'⟩, i4, i5⟩ ⟨p, rfl, hp⟩
    have i2c := i2.cell
    have hml : ss.length = k := by have := i3'.len; rw [List.length_take, splitL_length] at this; omega
    obtain ⟨pl, pc⟩ := piece_col (data := data) (K := K) (k := k)
    show Wp _ _ _ [(3, fieldV H.size), (5, fieldV H1.size), (6, p.val)] _ _
    refine go ?_
    refine RegS.makeSlice (n := K) ?_ ?_ fun A1 o1 y1 w1 => ?_
    · omega
    · omega
    have k1 := OwnR.toBlk o1
    have p1 := hp.ext y1
    refine go ?_
    refine RegS.copyB k1 (by rw [List.length_replicate]) p1.row (by rw [List.length_map]; exact pl) (fun v hv => by obtain ⟨b, _, rfl⟩ := List.mem_map.1 hv; rfl) ?_
    have kc := hsets_chg A.size ((pieceL data K k).map B8) 0 A1
    have k2 := Blk.sets ((pieceL data K k).map B8) 0 k1
    rw [puts_zero (by rw [List.length_map, List.length_replicate]; exact pl)] at k2
    generalize hsets A1 A.size 0 ((pieceL data K k).map B8) = A2 at kc k2
    have e2 : (pieceL data K k).map B8 ++ (List.replicate K (Value.int .u8 0)).drop ((pieceL data K k).map B8).length = ((splitL data K).getD k []).map B8 := by
      rw [splitL_getD hk, ← pc, List.map_append, List.length_map, List.drop_replicate, List.map_replicate]; rfl
    rw [e2] at k2
    have hsk : ((splitL data K).getD k []).length = K := by rw [splitL_getD hk, mk_length]
    have mcol : Mine A2 A.size (Sl.fresh A.size K) ((splitL data K).getD k []) := OwnR.mine (e := 5) (OwnR.ofBlk k2 (Nat.le_refl _) (by rw [List.length_map, hsk]) (by simp only [maxLen]; omega))
    have x2 : Ext A A2 := y1.then kc fun b hb => by omega
    have i3x := (i3.ext x2).cell
    have hM2 := i3'.ext x2
    have zA2 := x2.size
    refine go ?_
    refine RegS.buildSlice fun A3 o3 y3 w3 => ?_
    have r3 : RowF Sl.val Sl.nil A3 (Sl.fresh A2.size 1) [Sl.fresh A.size K] := OwnR.rowF (f := Sl.val) (l := [Sl.fresh A.size K]) o3
    have hM3 := hM2.ext y3
    have z3 := y3.size
    have x3 := x2.trans y3
    refine go ?_
    refine RegS.append (f := Sl.val) hM3.arr r3 (fun _ => rfl) (by omega) ?_ ?_ ?_
    · simp only [List.length_singleton]; omega
    · simp only [List.length_singleton]; omega
    intro t' A4 o4 c4 b4
    have hM4 := Mat.app (S := fun _ => False) hM3 ((mcol.ext y3).low (by omega)) (fun j x hj hx hx' => by have := ((i3'.each j hj).blk x hx).2; have := (mcol.blk x hx').1; omega) (fun x hx hx' => by have := (i3'.arr.blk_ge hx').2; have := (mcol.blk x hx).1; omega) o4 c4 b4
    have hab : ∀ b, a.blk = some b → H3.size + 2 ≤ b := fun b hb => (i3'.arr.blk_ge hb).1
    have j3 : Box A4 H1.size 31 a.val := (i3.ext x3).chg c4 fun h => by have := hab _ h; omega
    refine go ?_
    refine RegS.store (v := t'.val) j3.wr ?_
    have c5 := hset_chg A4 ⟨H1.size, 0, none⟩ t'.val
    have lb := i4.lt
    have lc := i5.lt
    have cc' : Chg (fun b => (H3.size + 2 ≤ b ∧ a.blk = some b) ∨ b = H1.size) A (hset A4 ⟨H1.size, 0, none⟩ t'.val) :=
      ((x3.chg _).trans (c4.mono fun b _ hb => .inl ⟨hab b hb, hb⟩)).trans (c5.mono fun b _ hb => .inr hb)
    refine go ?_
    refine bodyW_n (cc'.pair nA fun b h1 h2 h => by rcases h with ⟨h, _⟩ | h <;> omega) ⟨i1.then cc' fun b hb => by rcases hb with ⟨h, _⟩ | h <;> omega, i2.chg cc' (fun h => by rcases h with ⟨h, _⟩ | h <;> omega), ⟨t', ss ++ [Sl.fresh A.size K], Box.set j3, ?_⟩, i4.chg cc' (fun h => by rcases h with ⟨h, _⟩ | h <;> omega), i5.chg cc' (fun h => by rcases h with ⟨h, _⟩ | h <;> omega)⟩
    · rw [take_snoc [] (by rw [splitL_length]; omega)]
      exact hM4.chg c5 fun b hb _ hb' => by simp at hb'; omega
  · rintro A D hD ⟨i1, i2, ⟨a, ss, i3, i3'⟩, i4, i5⟩ hd
    have i3c := i3.cell
    rw [← splitL_length, List.take_length] at i3'
    refine go ?_
    have kk := Keep.shut (B := H3.size) hD hd
    refine ret1d hd ⟨a, ss, rfl, (i3'.keep kk).low (by omega), kk.above i1 (by omega)⟩
  · rintro e A D hD h; exact h.elim
end Go.Proofs.YtgmemfcfjlndoaaGreat
