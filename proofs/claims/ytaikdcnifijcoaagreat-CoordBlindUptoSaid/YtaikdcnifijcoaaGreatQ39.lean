/-
  The walks of package bw.
-/
import Derived.Test.YtaikdcnifijcoaaGreatQ38
import Derived.Test.YtaikdcnifijcoaaGreatQ13
set_option linter.unusedVariables false
set_option linter.unusedSimpArgs false
namespace Go.Proofs.YtaikdcnifijcoaaGreat
open Go Go.Vc Go.Gf
theorem within_ok (n : Int) (H : Heap) : CallsH Tryz.prog 238 [.int .i64 n] H fun v H' => v = .bool (dec (0 ≤ n ∧ n ≤ 255)) ∧ H = H' := by
  refine CallsH.enter h238 Tryz.func238 rfl rfl rfl (by decide) fun u => go ?_
  refine RegS.sp (fun h => ?_) (fun h => ?_) <;> refine go ?_
  · refine ret1 ⟨?_, rfl⟩
    congr 1
    exact dec_congr ⟨fun h => ⟨by omega, by omega⟩, fun h => by omega⟩
  · refine ret1 ⟨?_, rfl⟩
    rw [dec_neg (fun k => h (by omega))]
    rfl
theorem rl_get {n i : Nat} {v : Value} (h : i < n) : (rl [(n, v)])[i]? = some v := by simp [rl, h]
/-- Which bytes were seen. -/
def Seen (xs : List UInt8) (k : Nat) (c : Array Value) : Prop := c.size = 256 ∧ ∀ v : UInt8, c[v.toNat]? = some (.bool (dec (∃ i, i < k ∧ xs.getD i 0 = v)))
theorem unlikeB_ok (s : Sl) (xs : List UInt8) (H : Heap) (hs : Bytes H s xs) (hl : xs.length ≤ 9223372036854775806) : CallsH Tryz.prog 237 [s.val] H fun v H' => v = .bool (dec (unlike xs)) ∧ Ext H H' := by
  refine CallsH.enter h237 Tryz.func237 rfl rfl rfl (by decide) fun u => go ?_
  refine RegS.alloc fun H1 e1 z1 b1 => ?_
  have hs1 := hs.ext e1
  refine go ?_
  have hS0 : ∃ c, H1[H.size]? = some (.cells c 287 (0, 0)) ∧ Seen xs 0 c := by
    refine ⟨_, b1, by kernel_rfl, fun v => ?_⟩
    rw [dec_neg (fun ⟨i, hi, _⟩ => absurd hi (Nat.not_lt_zero _))]
    exact rl_get v.toNat_lt
  refine Wp.loop (ι := Nat) (fun k => [(3, .pointer (some ⟨H.size, 0, none⟩)), (6, s.val), (7, I64 xs.length), (8, I64 k)]) (fun k A => k ≤ xs.length ∧ Ext H A ∧ (∀ i, i < k → ∀ j, j < i → xs.getD i 0 ≠ xs.getD j 0) ∧ ∃ c, A[H.size]? = some (.cells c 287 (0, 0)) ∧ Seen xs k c) (fun k => xs.length - k) 0 ⟨rfl, rfl, rfl, rfl, trivial⟩ ⟨Nat.zero_le _, e1, fun i h => absurd h (Nat.not_lt_zero _), hS0⟩ ?_
  rintro k A ⟨hk, eA, hun, c, hc, hcz, hS⟩
  have hsA := hs.ext eA
  refine go ?_
  refine Wp.br (fun h => ?_) (fun h => ?_) <;> refine go ?_
  · have hcell : hcell A ⟨H.size, 0 + (xs.getD k 0).toNat, none⟩ = some (.bool (dec (∃ i, i < k ∧ xs.getD i 0 = xs.getD k 0))) := by rw [blk_cell hc, Nat.zero_add]; exact hS _
    refine go ?_
    refine Wp.br (fun hh => ?_) (fun hh => ?_) <;> refine go ?_
    · obtain ⟨i, hi, he⟩ := hh
      refine ret1 ⟨?_, eA⟩
      rw [dec_neg (p := unlike xs) (fun hu => hu k (by omega) i hi he.symm)]
    · have hlt := (xs.getD k 0).toNat_lt
      refine RegS.store (v := .bool true) (a := ⟨H.size, 0 + (xs.getD k 0).toNat, none⟩) (blk_wr hc (by omega)) ?_
      refine go ?_
      refine roundQ_n (k + 1) ⟨rfl, rfl, rfl, rfl, trivial⟩ ⟨by omega, eA.then (hset_chg _ _ _) fun b hb => by simp at hb; omega, fun i hi j hj => ?_, _, blk_set hc, ?_, fun v => ?_⟩ (by omega)
      · by_cases e : i = k
        · subst e; exact fun he => hh ⟨j, hj, he.symm⟩
        · exact hun i (by omega) j hj
      · simpa using hcz
      · by_cases e : v = xs.getD k 0
        · subst e
          rw [Nat.zero_add, Array.getElem?_setIfInBounds_self_of_lt (by omega), dec_pos ⟨k, by omega, rfl⟩]
        · have hne : ¬ (xs.getD k 0).toNat = v.toNat := fun h => e (UInt8.toNat_inj.1 h.symm)
          rw [Nat.zero_add, Array.getElem?_setIfInBounds_ne hne, hS v]
          congr 2
          refine dec_congr ⟨fun ⟨i, hi, he⟩ => ⟨i, by omega, he⟩, fun ⟨i, hi, he⟩ => ⟨i, ?_, he⟩⟩
          by_cases e2 : i = k
          · subst e2; exact absurd he.symm e
          · omega
  · have : k = xs.length := by omega
    subst this
    refine ret1 ⟨?_, eA⟩
    rw [dec_pos (p := unlike xs) hun]
theorem powersB_ok (fb : Nat) (x : UInt8) (n : Nat) (H : Heap) : CallsH Tryz.prog 277 [fieldV fb, B8 x, I64 n] H fun v H' => ∃ a b c, v = .func (.func 283) #[] #[.pointer (some ⟨a, 0, none⟩), .pointer (some ⟨b, 0, none⟩), .pointer (some ⟨c, 0, none⟩)] ∧ Box H' a 3 (I64 n) ∧ Box H' b 98 (fieldV fb) ∧ Box H' c 5 (B8 x) ∧ Ext H H' ∧ H.size ≤ a ∧ H.size ≤ b ∧ H.size ≤ c := by
  refine CallsH.enter h277 Tryz.func277 rfl rfl rfl (by decide) fun u => go ?_
  refine RegS.box (fun H1 e1 z1 b1 => ?_)
  refine go ?_
  refine RegS.box (fun H2 e2 z2 b2 => ?_)
  refine go ?_
  refine RegS.box (fun H3 e3 z3 b3 => ?_)
  refine go ?_
  exact ret1 ⟨_, _, _, rfl, ⟨b3⟩, Box.ext ⟨b1⟩ (e2.trans e3), Box.ext ⟨b2⟩ e3, (e1.trans e2).trans e3, by omega, Nat.le_refl _, by omega⟩
theorem powersB1_iter (fb : Nat) (x : UInt8) (n a b c : Nat) (hn : n ≤ 9223372036854775806) : Iter Tryz.prog 283 [.pointer (some ⟨a, 0, none⟩), .pointer (some ⟨b, 0, none⟩), .pointer (some ⟨c, 0, none⟩)] n (fun k _ vs => vs = [I64 k, B8 (ppow x k)]) (fun A => Box A a 3 (I64 n) ∧ Box A b 98 (fieldV fb) ∧ Box A c 5 (B8 x) ∧ IsField A fb) := by
  intro y J Jx H hpre hext hextx hY h0
  obtain ⟨ha, hb, hc, hF⟩ := hpre _ _ h0
  refine CallsH.enter h283 Tryz.func283 rfl rfl rfl (by decide) fun u => go ?_
  refine Wp.loop (ι := Nat) (fun k => [(0, .func (.yield y) #[] #[]), (1, .pointer (some ⟨a, 0, none⟩)), (2, .pointer (some ⟨b, 0, none⟩)), (3, .pointer (some ⟨c, 0, none⟩)), (5, B8 (ppow x k)), (7, I64 n), (8, I64 k)]) (fun k A => k ≤ n ∧ J k A) (fun k => n - k) 0 ⟨rfl, rfl, rfl, rfl, rfl, rfl, rfl, trivial⟩ ⟨Nat.zero_le _, h0⟩ ?_
  rintro k A ⟨hk, hJ⟩
  obtain ⟨ha, hb, hc, hF⟩ := hpre _ _ hJ
  refine go ?_
  refine Wp.br (fun h => ?_) (fun h => ?_) <;> refine go ?_
  · refine RegS.yieldC (hY k A _ (by omega) hJ rfl) ?_
    rintro v H2 ⟨hA, ⟨rfl, hJ'⟩ | ⟨rfl, hJ'⟩⟩
    · obtain ⟨ha, hb, hc, hF⟩ := hpre _ _ hJ'
      refine go ?_
      refine RegS.call (mul_ok fb _ _ H2 hF) ?_
      rintro _ _ ⟨rfl, rfl⟩
      refine go ?_
      exact roundQ_n (k + 1) ⟨rfl, rfl, rfl, rfl, rfl, rfl, rfl, trivial⟩ ⟨by omega, hJ'⟩ (by omega)
    · refine go ?_
      exact ret0 (.inr hJ')
  · refine ret0n (.inl ?_)
    have : k = n := by omega
    rw [← this]; exact hJ
theorem ret2dd {C : Cx} {L : Env} {H : Heap} {fn : Func} {R : Value → Heap → Prop} {D D' : Nat} {t₁ t₂ : Nat} {v₁ v₂ : Value} (hd : H[D]? = some (.deferred (some []))) (hd' : H[D']? = some (.deferred (some []))) (hne : D ≠ D') (h : R (.tuple #[v₁, v₂]) ((H.setIfInBounds D (.deferred none)).setIfInBounds D' (.deferred none)))
    (hr : fn.results = #[.tmp t₁, .tmp t₂] := by rfl) (h1 : L.get t₁ = some v₁ := by rfl) (h2 : L.get t₂ = some v₂ := by rfl) : retQ C fn R .ret L [D, D'] H :=
  retD ⟨hd, by rw [Array.getElem?_setIfInBounds_ne hne]; exact hd', trivial⟩ (Res.two hr h1 h2) h
/-! ### An equation -/
structure EqS (H A : Heap) (bf yb bd bw bs br bl fb : Nat) (y : UInt8) (d w W : Nat) (row : List UInt8) (last : UInt8) : Prop where
  ext : Ext H A
  f : Box A bf 98 (fieldV fb)
  y : Box A yb 5 (B8 y)
  d : Box A bd 3 (I64 d)
  w : Box A bw 3 (I64 w)
  r : Box A br 36 (Sl.fresh bs W).val
  m : Mine A H.size (Sl.fresh bs W) row
  l : Box A bl 5 (B8 last)
  ne : H.size ≤ bf ∧ bf < yb ∧ yb < bd ∧ bd < bw ∧ bw < bs ∧ bs < br ∧ br < bl
section
variable {H A A' : Heap} {bf yb bd bw bs br bl fb : Nat} {y : UInt8} {d w W : Nat} {row : List UInt8} {last : UInt8}
theorem fresh_blk (b n : Nat) : (Sl.fresh b n).blk = some b := rfl
theorem EqS.chg {S : Nat → Prop} (h : EqS H A bf yb bd bw bs br bl fb y d w W row last) (c : Chg S A A') (hs : ∀ b, S b → bl < b) : EqS H A' bf yb bd bw bs br bl fb y d w W row last := by
  have hn := h.ne
  have k : ∀ b, b ≤ bl → ¬ S b := fun b hb hb' => by have := hs b hb'; omega
  exact ⟨h.ext.then c fun b hb => by have := hs b hb; omega, h.f.chg c (k _ (by omega)), h.y.chg c (k _ (by omega)), h.d.chg c (k _ (by omega)), h.w.chg c (k _ (by omega)), h.r.chg c (k _ (by omega)), h.m.chg c fun b hb => k _ (by rw [fresh_blk] at hb; simp at hb; omega), h.l.chg c (k _ (by omega)), hn⟩
theorem EqS.setRow {j : Nat} {v : UInt8} (h : EqS H A bf yb bd bw bs br bl fb y d w W row last) (hj : j < row.length) : EqS H (hset A ((Sl.fresh bs W).cell j) (B8 v)) bf yb bd bw bs br bl fb y d w W (row.set j v) last ∧ Chg (· = bs) A (hset A ((Sl.fresh bs W).cell j) (B8 v)) := by
  have hn := h.ne
  obtain ⟨m, c⟩ := h.m.set hj v
  have c' : Chg (· = bs) A (hset A ((Sl.fresh bs W).cell j) (B8 v)) := c.mono fun b _ hb => by rw [fresh_blk] at hb; simp at hb; exact hb.symm
  exact ⟨⟨h.ext.then c' fun b hb => by omega, h.f.chg c' (by omega), h.y.chg c' (by omega), h.d.chg c' (by omega), h.w.chg c' (by omega), h.r.chg c' (by omega), m, h.l.chg c' (by omega), hn⟩, c'⟩
theorem EqS.setLast {v : UInt8} (h : EqS H A bf yb bd bw bs br bl fb y d w W row last) : EqS H (hset A ⟨bl, 0, none⟩ (B8 v)) bf yb bd bw bs br bl fb y d w W row v ∧ Chg (· = bl) A (hset A ⟨bl, 0, none⟩ (B8 v)) := by
  have hn := h.ne
  have c : Chg (· = bl) A (hset A ⟨bl, 0, none⟩ (B8 v)) := hset_chg A ⟨bl, 0, none⟩ (B8 v)
  exact ⟨⟨h.ext.then c fun b hb => by omega, h.f.chg c (by omega), h.y.chg c (by omega), h.d.chg c (by omega), h.w.chg c (by omega), h.r.chg c (by omega), h.m.chg c fun b hb => by rw [fresh_blk] at hb; simp at hb; omega, Box.set h.l, hn⟩, c⟩
end
def rowK (x : UInt8) (d w k : Nat) : List UInt8 := mk (d + 1 + 2 * w) fun j => if j < k then ppow x j else 0
def rowK2 (x y : UInt8) (d w k : Nat) : List UInt8 := mk (d + 1 + 2 * w) fun j => if j < d + 1 + w then ppow x j else if j - (d + 1 + w) < k then gmul y (ppow x (j - (d + 1 + w))) else 0
def lastK (x y : UInt8) : Nat → UInt8
  | 0 => 0
  | k + 1 => gmul y (ppow x k)
theorem rowK_succ {x : UInt8} {d w k : Nat} (hk : k < d + 1 + 2 * w) : (rowK x d w k).set k (ppow x k) = rowK x d w (k + 1) := by
  refine ext0 (by simp [rowK, mk_length]) fun j hj => ?_
  rw [List.length_set, rowK, mk_length] at hj
  rw [Gf.getD_set, rowK, mk_length, rowK, mk_getD, mk_getD, if_pos hj, if_pos hj]
  by_cases e : j = k
  · subst e; rw [if_pos ⟨rfl, hk⟩, if_pos (by omega)]
  · rw [if_neg fun h => e h.1]
    by_cases h : j < k
    · rw [if_pos h, if_pos (by omega)]
    · rw [if_neg h, if_neg (by omega)]
theorem rowK_all (x y : UInt8) (d w : Nat) : rowK x d w (d + 1 + w) = rowK2 x y d w 0 := mk_congr fun j _ => by
  by_cases h : j < d + 1 + w
  · rw [if_pos h, if_pos h]
  · rw [if_neg h, if_neg h, if_neg (Nat.not_lt_zero _)]
theorem rowK2_succ {x y : UInt8} {d w k : Nat} (hk : k < w) : (rowK2 x y d w k).set (d + 1 + w + k) (gmul y (ppow x k)) = rowK2 x y d w (k + 1) := by
  refine ext0 (by simp [rowK2, mk_length]) fun j hj => ?_
  rw [List.length_set, rowK2, mk_length] at hj
  rw [Gf.getD_set, rowK2, mk_length, rowK2, mk_getD, mk_getD, if_pos hj, if_pos hj]
  by_cases e : j = d + 1 + w + k
  · subst e; rw [if_pos ⟨rfl, by omega⟩, if_neg (by omega), if_pos (by omega), show d + 1 + w + k - (d + 1 + w) = k by omega]
  · rw [if_neg fun h => e h.1]
    by_cases h : j < d + 1 + w
    · rw [if_pos h, if_pos h]
    · rw [if_neg h, if_neg h]
      by_cases h2 : j - (d + 1 + w) < k
      · rw [if_pos h2, if_pos (by omega)]
      · rw [if_neg h2, if_neg (by omega)]
theorem rowK2_all (x y : UInt8) {d w k : Nat} (hk : w ≤ k) : rowK2 x y d w k = rowE x y d w := mk_congr fun j hj => by
  by_cases h : j < d + 1 + w
  · rw [if_pos h, if_pos h]
  · rw [if_neg h, if_neg h, if_pos (by omega)]
theorem rowK2_stop (x y : UInt8) (d w : Nat) : rowK2 x y d w w = rowK2 x y d w (w + 1) := by rw [rowK2_all _ _ (Nat.le_refl _), rowK2_all _ _ (by omega)]
set_option maxHeartbeats 2000000 in
theorem equation_ok (fb : Nat) (x y : UInt8) (d w : Nat) (H : Heap) (hF : IsField H fb) (hd : d ≤ 255) (hw : w ≤ 255) : CallsH Tryz.prog 265 [fieldV fb, B8 x, B8 y, I64 d, I64 w] H fun v H' => ∃ s : Sl, v = .tuple #[s.val, B8 (rhsE x y w)] ∧ Mine H' H.size s (rowE x y d w) ∧ Ext H H' := by
  refine CallsH.enter h265 Tryz.func265 rfl rfl rfl (by decide) fun u => go ?_
  refine RegS.box (fun H1 e1 z1 b1 => ?_)
  refine go ?_
  refine RegS.box (fun H2 e2 z2 b2 => ?_)
  refine go ?_
  refine RegS.box (fun H3 e3 z3 b3 => ?_)
  refine go ?_
  refine RegS.box (fun H4 e4 z4 b4 => ?_)
  have f4 : Box H4 H.size 98 (fieldV fb) := Box.ext ⟨b1⟩ ((e2.trans e3).trans e4)
  have y4 : Box H4 H1.size 5 (B8 y) := Box.ext ⟨b2⟩ (e3.trans e4)
  have d4 : Box H4 H2.size 3 (I64 d) := Box.ext ⟨b3⟩ e4
  have w4 : Box H4 H3.size 3 (I64 w) := ⟨b4⟩
  have x4 := ((e1.trans e2).trans e3).trans e4
  refine go ?_
  refine RegS.makeSlice (n := d + 1 + 2 * w) ?_ ?_ fun H5 o5 e5 z5 => ?_
  · omega
  · omega
  have m5 : Mine H5 H4.size (Sl.fresh H4.size (d + 1 + 2 * w)) (rowK x d w 0) := by
    have e0 : (List.replicate (d + 1 + 2 * w) (Value.int .u8 0)) = (rowK x d w 0).map B8 := by
      have : rowK x d w 0 = List.replicate (d + 1 + 2 * w) 0 := by
        refine ext0 (by simp [rowK, mk_length]) fun j hj => ?_
        rw [rowK, mk_length] at hj
        rw [rowK, mk_getD, if_pos hj, if_neg (Nat.not_lt_zero _)]
        simp [List.getD_eq_getElem?_getD, List.getElem?_replicate, hj]
      rw [this]; simp [B8]
    rw [e0] at o5
    exact OwnR.mine o5
  refine go ?_
  refine RegS.alloc (fun H6 e6 z6 b6 => ?_)
  refine go ?_
  refine RegS.store (v := (Sl.fresh H4.size (d + 1 + 2 * w)).val) (Box.wr ⟨b6⟩) ?_
  have r7 : Box (hset H6 ⟨H5.size, 0, none⟩ (Sl.fresh H4.size (d + 1 + 2 * w)).val) H5.size 36 (Sl.fresh H4.size (d + 1 + 2 * w)).val := Box.set ⟨b6⟩
  have e7 : Ext H5 (hset H6 ⟨H5.size, 0, none⟩ (Sl.fresh H4.size (d + 1 + 2 * w)).val) := e6.then (hset_chg _ _ _) fun b hb => by simp at hb; omega
  have z7 : (hset H6 ⟨H5.size, 0, none⟩ (Sl.fresh H4.size (d + 1 + 2 * w)).val).size = H5.size + 1 := by rw [hset_size]; exact z6
  generalize hset H6 ⟨H5.size, 0, none⟩ (Sl.fresh H4.size (d + 1 + 2 * w)).val = H7 at r7 e7 z7
  refine go ?_
  refine RegS.alloc (fun H8 e8 z8 b8 => ?_)
  refine go ?_
  refine RegS.store (v := B8 0) (Box.wr ⟨b8⟩) ?_
  have l9 : Box (hset H8 ⟨H7.size, 0, none⟩ (B8 0)) H7.size 5 (B8 0) := Box.set ⟨b8⟩
  have e9 : Ext H7 (hset H8 ⟨H7.size, 0, none⟩ (B8 0)) := e8.then (hset_chg _ _ _) fun b hb => by simp at hb; omega
  have z9 : (hset H8 ⟨H7.size, 0, none⟩ (B8 0)).size = H7.size + 1 := by rw [hset_size]; exact z8
  generalize hset H8 ⟨H7.size, 0, none⟩ (B8 0) = H9 at l9 e9 z9
  have e59 : Ext H4 H9 := e5.trans (e7.trans e9)
  have hE : EqS H H9 H.size H1.size H2.size H3.size H4.size H5.size H7.size fb y d w (d + 1 + 2 * w) (rowK x d w 0) 0 :=
    ⟨x4.trans e59, f4.ext e59, y4.ext e59, d4.ext e59, w4.ext e59, r7.ext e9, ((m5.ext (e7.trans e9)).low x4.size), l9, by omega⟩
  generalize hbl : H7.size = bl at hE
  have hz : bl < H9.size := by omega
  generalize H.size = bf at hE ⊢
  generalize H1.size = yb at hE ⊢
  generalize H2.size = bd at hE ⊢
  generalize H3.size = bw at hE ⊢
  generalize H4.size = bs at hE ⊢
  generalize H5.size = br at hE ⊢
  clear f4 y4 d4 w4 l9 r7 m5
  have hf := hE.f
  have hd' := hE.d
  have hw' := hE.w
  have hy' := hE.y
  have hFE := hF.ext hE.ext
  have hn := hE.ne
  refine go ?_
  refine RegS.call (powersB_ok fb x (d + 1 + w) H9) ?_
  rintro _ H10 ⟨a, b, c, rfl, pa, pb, pc, e10, ga, gb, gc⟩
  have hE10 := hE.chg (e10.chg fun _ => False) fun _ h => h.elim
  have z10 := e10.size
  have la := pa.lt
  have lb := pb.lt
  have lc := pc.lt
  refine go ?_
  refine Wp.rangeA (powersB1_iter fb x (d + 1 + w) a b c (by omega)) (fun k => [(1, B8 x), (5, fieldV bf), (7, fieldV yb), (8, fieldV bd), (9, fieldV bw), (12, fieldV br), (13, fieldV bl), (14, I64 k), (15, B8 (ppow x k))])
    (fun k A => EqS H A bf yb bd bw bs br bl fb y d w (d + 1 + 2 * w) (rowK x d w k) 0 ∧ Box A a 3 (I64 (d + 1 + w)) ∧ Box A b 98 (fieldV fb) ∧ Box A c 5 (B8 x) ∧ H10.size ≤ A.size) (fun _ _ => False) ?_ ?_ (fun _ _ _ _ h => h.elim) ?_ ?_ ?_ ?_ (fun _ _ _ _ h => h.elim)
  · rintro k A ⟨hE, pa, pb, pc, _⟩
    exact ⟨pa, pb, pc, hF.ext hE.ext⟩
  · rintro k A B S ⟨hE, pa, pb, pc, zA⟩ ch hS
    exact ⟨hE.chg ch fun b hb => by have := hS b hb; omega, pa.chg ch fun h => by have := hS _ h; omega, pb.chg ch fun h => by have := hS _ h; omega, pc.chg ch fun h => by have := hS _ h; omega, Nat.le_trans zA ch.size⟩
  · exact ⟨hE10, pa, pb, pc, Nat.le_refl _⟩
  · intro u l k hk A
    refine go ?_
    exact ⟨rfl, rfl, rfl, subs⟩
  · rintro u l k A hk ⟨hE, pa, pb, pc, zA⟩
    have hr := hE.r
    have hB := hE.m.bytes
    have hml : (rowK x d w k).length = d + 1 + 2 * w := mk_length _ _
    refine go ?_
    refine RegS.store (hE.m.wr (j := k) (by omega)) ?_
    obtain ⟨hE', ch⟩ := hE.setRow (j := k) (v := ppow x k) (by omega)
    rw [rowK_succ (by omega)] at hE'
    refine go ?_
    exact bodyQ_n (ch.above fun b hb => by omega) ⟨hE', pa.chg ch (by omega), pb.chg ch (by omega), pc.chg ch (by omega), by rw [hset_size]; exact zA⟩
  · rintro A D1 hD ⟨hE, _, _, _, zA⟩ hd1
    rw [rowK_all x y d w] at hE
    have hf := hE.f
    have hd' := hE.d
    have hw' := hE.w
    have hy' := hE.y
    have hFE := hF.ext hE.ext
    have lD := (Array.getElem?_eq_some_iff.1 hd1).1
    refine go ?_
    refine RegS.call (powersB_ok fb x (w + 1) A) ?_
    rintro _ A1 ⟨a', b', c', rfl, qa, qb, qc, e11, ga', gb', gc'⟩
    have hE1 := hE.chg (e11.chg fun _ => False) fun _ h => h.elim
    have hd2 := e11.blk hd1
    have z11 := e11.size
    have la' := qa.lt
    have lb' := qb.lt
    have lc' := qc.lt
    refine go ?_
    refine Wp.rangeA (powersB1_iter fb x (w + 1) a' b' c' (by omega)) (fun k => [(1, B8 x), (5, fieldV bf), (7, fieldV yb), (8, fieldV bd), (9, fieldV bw), (12, fieldV br), (13, fieldV bl), (16, I64 k), (17, B8 (ppow x k))])
      (fun k B => EqS H B bf yb bd bw bs br bl fb y d w (d + 1 + 2 * w) (rowK2 x y d w k) (lastK x y k) ∧ Box B a' 3 (I64 (w + 1)) ∧ Box B b' 98 (fieldV fb) ∧ Box B c' 5 (B8 x) ∧ A1.size ≤ B.size ∧ B[D1]? = some (.deferred (some []))) (fun _ _ => False) ?_ ?_ (fun _ _ _ _ h => h.elim) ?_ ?_ ?_ ?_ (fun _ _ _ _ h => h.elim)
    · rintro k A ⟨hE, pa, pb, pc, _⟩
      exact ⟨pa, pb, pc, hF.ext hE.ext⟩
    · rintro k A B S ⟨hE, pa, pb, pc, zA', hdd⟩ ch hS
      exact ⟨hE.chg ch fun b hb => by have := hS b hb; omega, pa.chg ch fun h => by have := hS _ h; omega, pb.chg ch fun h => by have := hS _ h; omega, pc.chg ch fun h => by have := hS _ h; omega, Nat.le_trans zA' ch.size, by rw [ch.get D1 (Array.getElem?_eq_some_iff.1 hdd).1 fun h => by have := hS _ h; omega]; exact hdd⟩
    · exact ⟨hE1, qa, qb, qc, Nat.le_refl _, hd2⟩
    · intro u l k hk A
      refine go ?_
      exact ⟨rfl, rfl, rfl, subs⟩
    · rintro u l k B hk ⟨hE, pa, pb, pc, zB, hdd⟩
      have hr := hE.r
      have hB := hE.m.bytes
      have hf := hE.f
      have hd' := hE.d
      have hw' := hE.w
      have hy' := hE.y
      have hFB := hF.ext hE.ext
      have hml : (rowK2 x y d w k).length = d + 1 + 2 * w := mk_length _ _
      refine go ?_
      refine Wp.br (fun hkw => ?_) (fun hkw => ?_)
      · refine go ?_
        refine RegP.call (mul_ok fb _ _ B hFB) ?_
        rintro _ _ ⟨rfl, rfl⟩
        refine ⟨.inl (Ext.refl _), ?_⟩
        refine go ?_
        refine RegP.store (hE.m.wr (j := d + 1 + w + k) (by omega)) ?_ ?_
        · exact proms
        obtain ⟨hE', ch⟩ := hE.setRow (j := d + 1 + w + k) (v := gmul y (ppow x k)) (by omega)
        rw [rowK2_succ (by omega)] at hE'
        have hdd' : (hset B ((Sl.fresh bs (d + 1 + 2 * w)).cell (d + 1 + w + k)) (B8 (gmul y (ppow x k))))[D1]? = some (.deferred (some [])) := by rw [ch.get D1 (Array.getElem?_eq_some_iff.1 hdd).1 (by omega)]; exact hdd
        have pa' := pa.chg ch (by omega)
        have pb' := pb.chg ch (by omega)
        have pc' := pc.chg ch (by omega)
        have zB' : A1.size ≤ (hset B ((Sl.fresh bs (d + 1 + 2 * w)).cell (d + 1 + w + k)) (B8 (gmul y (ppow x k)))).size := by rw [hset_size]; exact zB
        have ab := ch.above (B := A1.size) fun b hb => by omega
        generalize hset B ((Sl.fresh bs (d + 1 + 2 * w)).cell (d + 1 + w + k)) (B8 (gmul y (ppow x k))) = B1 at hE' hdd' pa' pb' pc' zB' ab
        have hf1 := hE'.f
        have hy1 := hE'.y
        refine go ?_
        refine RegS.call (mul_ok fb _ _ B1 (hF.ext hE'.ext)) ?_
        rintro _ _ ⟨rfl, rfl⟩
        refine go ?_
        refine RegS.store hE'.l.wr ?_
        obtain ⟨hE2, ch2⟩ := hE'.setLast (v := gmul y (ppow x k))
        refine go ?_
        exact bodyQ_n (ab.trans (ch2.above fun b hb => by omega)) ⟨hE2, pa'.chg ch2 (by omega), pb'.chg ch2 (by omega), pc'.chg ch2 (by omega), by rw [hset_size]; exact zB', by rw [ch2.get D1 (Array.getElem?_eq_some_iff.1 hdd').1 (by omega)]; exact hdd'⟩
      · have hkk : k = w := by omega
        refine go ?_
        refine RegS.call (mul_ok fb _ _ B hFB) ?_
        rintro _ _ ⟨rfl, rfl⟩
        refine go ?_
        refine RegS.store hE.l.wr ?_
        obtain ⟨hE2, ch2⟩ := hE.setLast (v := gmul y (ppow x k))
        refine go ?_
        refine bodyQ_n (ch2.above fun b hb => by omega) ⟨?_, pa.chg ch2 (by omega), pb.chg ch2 (by omega), pc.chg ch2 (by omega), by rw [hset_size]; exact zB, by rw [ch2.get D1 (Array.getElem?_eq_some_iff.1 hdd).1 (by omega)]; exact hdd⟩
        subst hkk
        rw [rowK2_stop] at hE2
        exact hE2
    · rintro B D2 hD2 ⟨hE, _, _, _, zB, hdd⟩ hd2'
      rw [rowK2_all x y (show w ≤ w + 1 by omega)] at hE
      have hr := hE.r
      have hl := hE.l
      refine go ?_
      have hne : D2 ≠ D1 := by omega
      have hdd' : (B.setIfInBounds D2 (.deferred none))[D1]? = some (.deferred (some [])) := by rw [Array.getElem?_setIfInBounds_ne hne]; exact hdd
      have k1 := Keep.shut (B := H10.size) (by omega) hd2'
      have k2 := Keep.shut (B := H10.size) hD hdd'
      have s0 := hE.ext.size
      refine ret2dd hd2' hdd hne ⟨Sl.fresh bs (d + 1 + 2 * w), rfl, ?_, ?_⟩
      · have mm := (hE.m.keep k1).keep k2
        exact ⟨mm.bytes, fun b hb => ⟨by rw [fresh_blk] at hb; simp at hb; omega, (mm.blk b hb).2⟩, mm.free, mm.cap⟩
      · exact k2.above (k1.above hE.ext (by omega)) (by omega)
end Go.Proofs.YtaikdcnifijcoaaGreat
