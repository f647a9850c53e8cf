/-
  The walk of package solve's reduce.
-/
import Derived.Test.YtaikdcnifijcoaaGreatQ36
import Derived.Test.YtaikdcnifijcoaaGreatQ05
import Derived.Test.YtaikdcnifijcoaaGreatQ13
set_option linter.unusedVariables false
set_option linter.unusedSimpArgs false
namespace Go.Proofs.YtaikdcnifijcoaaGreat
open Go Go.Vc Go.Gf
/-! ### Functions that are handed in -/
/-- Of each of the slice's elements the function tells whether p; it turns nothing that was there. -/
def Asks (g : FuncId) (cap : List Value) (ss : List Sl) (p : Nat → Prop) (H : Heap) : Prop :=
  ∀ k, k < ss.length → CallsH Tryz.prog g ((ss.getD k Sl.nil).val :: cap) H fun v H' => v = .bool (dec (p k)) ∧ H = H'
def IdxR (n : Nat) (p : Nat → Prop) (v : Value) : Prop := (v = .int .i64 (-1) ∧ ∀ k, k < n → ¬ p k) ∨ ∃ i, i < n ∧ v = I64 i ∧ p i ∧ ∀ k, k < i → ¬ p k
theorem indexFunc_ok (g : FuncId) (cap : List Value) (s : Sl) (ss : List Sl) (p : Nat → Prop) (H : Heap) (hs : RowF Sl.val Sl.nil H s ss) (hg : Asks g cap ss p H) (hl : ss.length ≤ 9223372036854775806) : CallsH Tryz.prog 241 [s.val, .func (.func g) #[] cap.toArray] H fun v H' => IdxR ss.length p v ∧ H = H' := by
  refine CallsH.enter h241 Tryz.func241 rfl rfl rfl (by decide) fun u => go ?_
  refine Wp.loop (ι := Nat) (fun k => [(0, s.val), (1, .func (.func g) #[] cap.toArray), (7, I64 ss.length), (8, I64 k)]) (fun k A => k ≤ ss.length ∧ (∀ j, j < k → ¬ p j) ∧ H = A) (fun k => ss.length - k) 0 ⟨rfl, rfl, rfl, rfl, trivial⟩ ⟨Nat.zero_le _, fun j h => absurd h (Nat.not_lt_zero _), rfl⟩ ?_
  rintro k _ ⟨hk, hp, rfl⟩
  refine go ?_
  refine Wp.br (fun h => ?_) (fun h => ?_) <;> refine go ?_
  · refine RegS.call (first := []) (captured := cap) (hg k (by omega)) ?_
    rintro _ _ ⟨rfl, rfl⟩
    refine go ?_
    refine Wp.br (fun h' => ?_) (fun h' => ?_) <;> refine go ?_
    · exact ret1 ⟨.inr ⟨k, by omega, rfl, h', hp⟩, rfl⟩
    · refine roundQ_n (k + 1) ⟨rfl, rfl, rfl, rfl, trivial⟩ ⟨by omega, fun j hj => ?_, rfl⟩ (by omega)
      by_cases e : j = k
      · subst e; exact h'
      · exact hp j (by omega)
  · exact ret1 ⟨.inl ⟨rfl, fun j hj => hp j (by omega)⟩, rfl⟩
theorem containsFunc_ok (g : FuncId) (cap : List Value) (s : Sl) (ss : List Sl) (p : Nat → Prop) (H : Heap) (hs : RowF Sl.val Sl.nil H s ss) (hg : Asks g cap ss p H) (hl : ss.length ≤ 9223372036854775806) : CallsH Tryz.prog 188 [s.val, .func (.func g) #[] cap.toArray] H fun v H' => v = .bool (dec (∃ k, k < ss.length ∧ p k)) ∧ H = H' := by
  refine CallsH.enter h188 Tryz.func188 rfl rfl rfl (by decide) fun u => go ?_
  refine RegS.call (indexFunc_ok g cap s ss p H hs hg hl) ?_
  rintro _ _ ⟨⟨rfl, h⟩ | ⟨i, hi, rfl, h, _⟩, rfl⟩ <;> refine go ?_
  · refine ret1 ⟨?_, rfl⟩
    rw [dec_neg (by omega), dec_neg (fun ⟨k, hk, hp⟩ => h k hk hp)]
  · refine ret1 ⟨?_, rfl⟩
    rw [dec_pos (by omega), dec_pos ⟨i, hi, h⟩]
/-! ### Rows of equal length -/
theorem right1_ok (b : Nat) (s r : Sl) (ss : List Sl) (ls : List (List UInt8)) (l : List UInt8) (H : Heap) (hb : Box H b 31 s.val) (hs : BRows H s ss ls) (h0 : 0 < ls.length) (hr : Bytes H r l) : CallsH Tryz.prog 284 [r.val, .pointer (some ⟨b, 0, none⟩)] H fun v H' => v = .bool (dec (l.length ≠ (ls.getD 0 []).length)) ∧ H = H' := by
  have hlen := hs.len
  have hrow := hs.row
  have h0' := hs.each 0 h0
  refine CallsH.enter h284 Tryz.func284 rfl rfl rfl (by decide) fun u => go ?_
  refine ret1 ⟨?_, rfl⟩
  congr 1
  exact dec_congr ⟨fun h => by omega, fun h => by omega⟩
theorem right_ok (s : Sl) (ss : List Sl) (ls : List (List UInt8)) (H : Heap) (hs : BRows H s ss ls) (hl : ls.length ≤ 9223372036854775806) : CallsH Tryz.prog 278 [s.val] H fun v H' => v = .bool (dec (rect ls)) ∧ Ext H H' := by
  refine CallsH.enter h278 Tryz.func278 rfl rfl rfl (by decide) fun u => go ?_
  refine RegS.box fun H1 e1 z1 b1 => ?_
  have c1 : Box H1 H.size 31 s.val := ⟨b1⟩
  have hs1 := hs.ext e1
  have hlen := hs.len
  refine go ?_
  refine RegS.call (containsFunc_ok 284 [.pointer (some ⟨H.size, 0, none⟩)] s ss (fun k => (ls.getD k []).length ≠ (ls.getD 0 []).length) H1 hs1.row (fun k hk => right1_ok H.size s _ ss ls _ H1 c1 hs1 (by omega) (hs1.each k (by omega))) (by omega)) ?_
  rintro _ _ ⟨rfl, rfl⟩
  refine go ?_
  refine ret1 ⟨?_, e1⟩
  congr 1
  refine dec_congr ⟨fun h k hk => Classical.byContradiction fun h' => h ⟨k, by omega, h'⟩, fun h ⟨k, hk, h'⟩ => h' (h k (by omega))⟩
/-! ### The system -/
theorem IsField.chg {H H' : Heap} {b : Nat} {S : Nat → Prop} (h : IsField H b) (c : Chg S H H') (hs : ¬ S b) : IsField H' b := ⟨fun k hk => c.cell (h.exp k hk) hs, fun a => c.cell (h.log a) hs⟩
structure Sys (H : Heap) (b fb top : Nat) (t : Sl) (ss : List Sl) (m : List (List UInt8)) (O : Sl) (own : List Nat) : Prop where
  blk : Blk H b 301 [fieldV fb, t.val, O.val]
  mat : Mat H (b + 1) 36 t ss m
  own : OwnF I64 H (b + 1) 3 O own
  field : IsField H fb
  low : fb < b
  ot : ∀ x, O.blk = some x → t.blk ≠ some x
  os : ∀ x k, O.blk = some x → k < m.length → (ss.getD k Sl.nil).blk ≠ some x
  tt : ∀ x, t.blk = some x → x < top
  ts : ∀ x k, k < m.length → (ss.getD k Sl.nil).blk = some x → x < top
section
variable {H H' : Heap} {b fb top : Nat} {t : Sl} {ss : List Sl} {m : List (List UInt8)} {O : Sl} {own : List Nat}
theorem Sys.ext (h : Sys H b fb top t ss m O own) (e : Ext H H') : Sys H' b fb top t ss m O own := ⟨h.blk.ext e, h.mat.ext e, h.own.ext e, h.field.ext e, h.low, h.ot, h.os, h.tt, h.ts⟩
theorem Sys.row (h : Sys H b fb top t ss m O own) : RowF Sl.val Sl.nil H t ss := h.mat.row
theorem Sys.owns (h : Sys H b fb top t ss m O own) : RowF I64 0 H O own := h.own.rowF
theorem Sys.put {R W : Nat} {f g : M} (h : Sys H b fb top t ss (mk2 R W f) O own) {i j : Nat} {v : UInt8} (hi : i < R) (hj : j < W) (hg : ∀ a c, a < R → c < W → g a c = if a = i ∧ c = j then v else f a c) :
    Sys (hset H ((ss.getD i Sl.nil).cell j) (B8 v)) b fb top t ss (mk2 R W g) O own ∧ Chg (fun x => b ≤ x ∧ x < top) H (hset H ((ss.getD i Sl.nil).cell j) (B8 v)) := by
  have hi' : i < (mk2 R W f).length := by rw [mk2_length]; exact hi
  have hj' : j < ((mk2 R W f).getD i []).length := by rw [mk2_row hi, mk_length]; exact hj
  obtain ⟨h1, h2⟩ := h.mat.put hi' hj' v
  rw [mk2_put hi hj hg] at h1
  obtain ⟨_, h3⟩ := (h.mat.each i hi').set hj' v
  have hlow : ∀ x, (ss.getD i Sl.nil).blk = some x → b + 1 ≤ x := fun x hx => ((h.mat.each i hi').blk x hx).1
  refine ⟨⟨h.blk.chg h3 fun hx => by have := hlow b hx; omega, h1, h.own.chg h3 fun x hx hx' => h.os x i hx hi' hx', h.field.chg h3 fun hx => by have := hlow fb hx; have := h.low; omega, h.low, h.ot, fun x k hx hk => h.os x k hx (by rw [mk2_length] at hk ⊢; exact hk), h.tt, fun x k hk => h.ts x k (by rw [mk2_length] at hk ⊢; exact hk)⟩, h3.mono fun x _ hx => ⟨by have := hlow x hx; omega, h.ts x i hi' hx⟩⟩
theorem Sys.swap {R W : Nat} {f : M} (h : Sys H b fb top t ss (mk2 R W f) O own) {i j : Nat} (hi : i < R) (hj : j < R) :
    Sys (hset (hset H (t.cell i) (ss.getD j Sl.nil).val) (t.cell j) (ss.getD i Sl.nil).val) b fb top t ((ss.set i (ss.getD j Sl.nil)).set j (ss.getD i Sl.nil)) (mk2 R W (swp f i j)) O own ∧
    Chg (fun x => b ≤ x ∧ x < top) H (hset (hset H (t.cell i) (ss.getD j Sl.nil).val) (t.cell j) (ss.getD i Sl.nil).val) := by
  have hi' : i < (mk2 R W f).length := by rw [mk2_length]; exact hi
  have hj' : j < (mk2 R W f).length := by rw [mk2_length]; exact hj
  obtain ⟨h1, h2⟩ := h.mat.swap hi' hj'
  rw [mk2_swap hi hj] at h1
  have hl : ss.length = R := by have := h.mat.len; rwa [mk2_length] at this
  obtain ⟨o1, c1⟩ := OwnR.set h.mat.arr (j := i) (by simp; omega) (ss.getD j Sl.nil).val
  obtain ⟨_, c2⟩ := OwnR.set o1 (j := j) (by simp; omega) (ss.getD i Sl.nil).val
  have c := c1.trans c2
  have hlow : ∀ x, t.blk = some x → b + 1 ≤ x := fun x hx => (h.mat.arr.blk_ge hx).1
  refine ⟨⟨h.blk.chg c fun hx => by have := hlow b hx; omega, h1, h.own.chg c fun x hx hx' => h.ot x hx hx', h.field.chg c fun hx => by have := hlow fb hx; have := h.low; omega, h.low, h.ot, fun x k hx hk hx' => ?_, h.tt, fun x k hk hx' => ?_⟩, c.mono fun x _ hx => ⟨by have := hlow x hx; omega, h.tt x hx⟩⟩
  case refine_2 =>
    rw [mk2_length] at hk
    rw [getD_setL (by simp; omega)] at hx'
    split at hx'
    · exact h.ts x i hi' hx'
    · rw [getD_setL (by omega)] at hx'
      split at hx'
      · exact h.ts x j hj' hx'
      · exact h.ts x k (by rw [mk2_length]; exact hk) hx'
  rw [mk2_length] at hk
  rw [getD_setL (by simp; omega)] at hx'
  split at hx'
  · exact h.os x i hx hi' hx'
  · rw [getD_setL (by omega)] at hx'
    split at hx'
    · exact h.os x j hx hj' hx'
    · exact h.os x k hx (by rw [mk2_length]; exact hk) hx'
/-- The columns' row is another one. -/
theorem Sys.putOwn {H1 : Heap} {O' : Sl} {own' : List Nat} (h : Sys H b fb top t ss m O own) (o : OwnF I64 H1 (b + 1) 3 O' own') (c : Chg (fun x => O.blk = some x) H H1) (hb : O'.blk = O.blk ∨ ∃ x, O'.blk = some x ∧ H.size ≤ x) :
    Sys (hset H1 ⟨b, 2, none⟩ O'.val) b fb top t ss m O' own' ∧ Chg (fun x => b ≤ x) H (hset H1 ⟨b, 2, none⟩ O'.val) := by
  have hlow : ∀ x, O.blk = some x → b + 1 ≤ x := fun x hx => (h.own.blk_ge hx).1
  have h1 : Blk H1 b 301 [fieldV fb, t.val, O.val] := h.blk.chg c fun hx => by have := hlow b hx; omega
  have c2 := hset_chg H1 ⟨b, 2, none⟩ O'.val
  have m1 := h.mat.chg' c (fun x hx hx' => h.ot x hx' hx) (fun k x hk hx hx' => h.os x k hx' hk hx)
  have m2 := m1.chg c2 fun x hx _ e => by simp at e; omega
  have lt1 : ∀ x, t.blk = some x → x < H.size := fun x hx => (h.mat.arr.blk_ge hx).2
  have lt2 : ∀ x k, k < m.length → (ss.getD k Sl.nil).blk = some x → x < H.size := fun x k hk hx => ((h.mat.each k hk).blk x hx).2
  refine ⟨⟨Blk.set h1, m2, o.chg c2 fun x hx e => by simp at e; have := (o.blk_ge hx).1; omega, (h.field.chg c fun hx => by have := hlow fb hx; have := h.low; omega).chg c2 fun e => by simp at e; have := h.low; omega, h.low, fun x hx hx' => ?_, fun x k hx hk hx' => ?_, h.tt, h.ts⟩, ?_⟩
  · rcases hb with hb | ⟨y, hb, hy⟩
    · exact h.ot x (hb ▸ hx) hx'
    · rw [hb] at hx; simp only [Option.some.injEq] at hx; have := lt1 x hx'; omega
  · rcases hb with hb | ⟨y, hb, hy⟩
    · exact h.os x k (hb ▸ hx) hk hx'
    · rw [hb] at hx; simp only [Option.some.injEq] at hx; have := lt2 x k hk hx'; omega
  · exact (c.mono fun x _ hx => by have := hlow x hx; omega).trans (c2.mono fun x _ hx => by simp at hx; omega)
/-- A row more. -/
theorem Sys.addRow {H1 : Heap} {t' s : Sl} {l : List UInt8} (h : Sys H b fb top t ss m Sl.nil []) (hs : Mine H (b + 1) s l) (hsep : ∀ k x, k < m.length → (ss.getD k Sl.nil).blk = some x → s.blk ≠ some x) (hst : ∀ x, s.blk = some x → t.blk ≠ some x)
    (o : OwnF Sl.val H1 (b + 1) 36 t' (ss ++ [s])) (c : Chg (fun x => t.blk = some x) H H1) (hb : t'.blk = t.blk ∨ ∃ x, t'.blk = some x ∧ H.size ≤ x) :
    Sys (hset H1 ⟨b, 1, none⟩ t'.val) b fb H1.size t' (ss ++ [s]) (m ++ [l]) Sl.nil [] ∧ Chg (fun x => b ≤ x) H (hset H1 ⟨b, 1, none⟩ t'.val) := by
  have hlow : ∀ x, t.blk = some x → b + 1 ≤ x := fun x hx => (h.mat.arr.blk_ge hx).1
  have h1 : Blk H1 b 301 [fieldV fb, t.val, Sl.nil.val] := h.blk.chg c fun hx => by have := hlow b hx; omega
  have c2 := hset_chg H1 ⟨b, 1, none⟩ t'.val
  have m1 := Mat.app (S := fun _ => False) h.mat hs hsep hst o c hb
  have m2 := m1.chg c2 fun x hx _ e => by simp at e; omega
  refine ⟨⟨Blk.set h1, m2, OwnR.nil _ _ _ _, (h.field.chg c fun hx => by have := hlow fb hx; have := h.low; omega).chg c2 fun e => by simp at e; have := h.low; omega, h.low, fun x hx => by simp [Sl.blk, Sl.nil] at hx, fun x k hx => by simp [Sl.blk, Sl.nil] at hx, fun x hx => (m1.arr.blk_ge hx).2, fun x k hk hx => ((m1.each k hk).blk x hx).2⟩, ?_⟩
  exact (c.mono fun x _ hx => by have := hlow x hx; omega).trans (c2.mono fun x _ hx => by simp at hx; omega)
end
abbrev sysV (b : Nat) : Value := .pointer (some ⟨b, 0, none⟩)
def sclN (f : M) (n : Nat) (v : UInt8) (k : Nat) : M := fun i j => if i = n ∧ j < k then gmul (f n j) v else f i j
theorem times_ok' (b fb top : Nat) (t : Sl) (ss : List Sl) (R W : Nat) (f : M) (O : Sl) (own : List Nat) (n : Nat) (v : UInt8) (H : Heap) (h : Sys H b fb top t ss (mk2 R W f) O own) (hn : n < R) (hR : R ≤ 1000000) (hW : W ≤ 1000000) :
    CallsH Tryz.prog 286 [sysV b, I64 n, B8 v] H fun _ H' => Sys H' b fb top t ss (mk2 R W (scl f n v)) O own ∧ Chg (fun x => b ≤ x ∧ x < top) H H' := by
  have hb := h.blk
  have hrow := h.row
  have hsl : ss.length = R := by have := h.mat.len; rwa [mk2_length] at this
  have rowB : ∀ {A : Heap} {g : M}, Sys A b fb top t ss (mk2 R W g) O own → Bytes A (ss.getD n Sl.nil) (mk W (g n)) := fun hA => by
    have := hA.mat.bytes (k := n) (by rw [mk2_length]; exact hn)
    rwa [mk2_row hn] at this
  have hB := rowB h
  have hml := mk_length W (f n)
  refine CallsH.enter h286 Tryz.func286 rfl rfl rfl (by decide) fun u => go ?_
  rw [hml]
  refine Wp.loop (ι := Nat) (fun k => [(0, sysV b), (1, I64 n), (2, B8 v), (14, (ss.getD n Sl.nil).val), (15, I64 W), (16, I64 k)]) (fun k A => k ≤ W ∧ Sys A b fb top t ss (mk2 R W (sclN f n v k)) O own ∧ Chg (fun x => b ≤ x ∧ x < top) H A) (fun k => W - k) 0 ⟨rfl, rfl, rfl, rfl, rfl, rfl, trivial⟩ ⟨Nat.zero_le _, by rw [mk2_congr (f := sclN f n v 0) (g := f) fun i j _ _ => by simp [sclN]]; exact h, Chg.refl _ _⟩ ?_
  rintro k A ⟨hk, hS, cA⟩
  have hb := hS.blk
  have hrow := hS.row
  have hB := rowB hS
  have hml := mk_length W (sclN f n v k n)
  have hF := hS.field
  refine go ?_
  refine Wp.br (fun h' => ?_) (fun h' => ?_) <;> refine go ?_
  · refine RegP.call (mul_ok fb _ _ _ hF) ?_
    rintro _ _ ⟨rfl, rfl⟩
    refine ⟨.inl (Ext.refl _), ?_⟩
    refine go ?_
    refine RegP.store (hS.mat.wr (i := n) (j := k) (by rw [mk2_length]; exact hn) (by rw [mk2_row hn, mk_length]; omega)) ?_ ?_
    · exact Proms.nil
    obtain ⟨h1, h2⟩ := hS.put (g := sclN f n v (k + 1)) (i := n) (j := k) (v := gmul ((mk W (sclN f n v k n)).getD k 0) v) hn (by omega) fun a c _ _ => by
      rw [mk_getD, if_pos (show k < W by omega)]
      simp only [sclN]
      by_cases e : a = n
      · subst e
        by_cases e2 : c = k
        · subst e2; simp
        · by_cases e3 : c < k
          · simp [e2, e3, Nat.lt_succ_of_lt e3]
          · simp [e2, e3, show ¬ c < k + 1 by omega]
      · simp [e]
    refine go ?_
    exact roundQ_n (k + 1) ⟨rfl, rfl, rfl, rfl, rfl, rfl, trivial⟩ ⟨by omega, h1, cA.trans h2⟩ (by omega)
  · have : k = W := by omega
    subst this
    refine ret0n ⟨?_, cA⟩
    rw [mk2_congr (f := sclN f n v k) (g := scl f n v) fun i j _ hj => by simp [sclN, scl, hj]] at hS
    exact hS
def addN (f : M) (to fr : Nat) (v : UInt8) (k : Nat) : M := fun i j => if i = to ∧ j < k then f to j ^^^ gmul (f fr j) v else f i j
def addF (f : M) (to fr : Nat) (v : UInt8) : M := fun i j => if i = to then f to j ^^^ gmul (f fr j) v else f i j
theorem addS_ok (b fb top : Nat) (t : Sl) (ss : List Sl) (R W : Nat) (f : M) (O : Sl) (own : List Nat) (n fr : Nat) (v : UInt8) (H : Heap) (h : Sys H b fb top t ss (mk2 R W f) O own) (hn : n < R) (hf : fr < R) (hne : n ≠ fr) (hR : R ≤ 1000000) (hW : W ≤ 1000000) :
    CallsH Tryz.prog 287 [sysV b, I64 n, I64 fr, B8 v] H fun _ H' => Sys H' b fb top t ss (mk2 R W (addF f n fr v)) O own ∧ Chg (fun x => b ≤ x ∧ x < top) H H' := by
  have hb := h.blk
  have hrow := h.row
  have hsl : ss.length = R := by have := h.mat.len; rwa [mk2_length] at this
  have rowB : ∀ {A : Heap} {g : M} (i : Nat), i < R → Sys A b fb top t ss (mk2 R W g) O own → Bytes A (ss.getD i Sl.nil) (mk W (g i)) := fun i hi hA => by
    have := hA.mat.bytes (k := i) (by rw [mk2_length]; exact hi)
    rwa [mk2_row hi] at this
  have hB := rowB fr hf h
  have hml := mk_length W (f fr)
  refine CallsH.enter h287 Tryz.func287 rfl rfl rfl (by decide) fun u => go ?_
  rw [hml]
  refine Wp.loop (ι := Nat) (fun k => [(0, sysV b), (1, I64 n), (2, I64 fr), (3, B8 v), (16, (ss.getD fr Sl.nil).val), (17, I64 W), (18, I64 k)]) (fun k A => k ≤ W ∧ Sys A b fb top t ss (mk2 R W (addN f n fr v k)) O own ∧ Chg (fun x => b ≤ x ∧ x < top) H A) (fun k => W - k) 0 ⟨rfl, rfl, rfl, rfl, rfl, rfl, rfl, trivial⟩ ⟨Nat.zero_le _, by rw [mk2_congr (f := addN f n fr v 0) (g := f) fun i j _ _ => by simp [addN]]; exact h, Chg.refl _ _⟩ ?_
  rintro k A ⟨hk, hS, cA⟩
  have hb := hS.blk
  have hrow := hS.row
  have hB := rowB fr hf hS
  have hBn := rowB n hn hS
  have hml := mk_length W (addN f n fr v k fr)
  have hmn := mk_length W (addN f n fr v k n)
  have hF := hS.field
  refine go ?_
  refine Wp.br (fun h' => ?_) (fun h' => ?_) <;> refine go ?_
  · refine RegP.call (mul_ok fb _ _ _ hF) ?_
    rintro _ _ ⟨rfl, rfl⟩
    refine ⟨.inl (Ext.refl _), ?_⟩
    refine go ?_
    refine RegP.store (hS.mat.wr (i := n) (j := k) (by rw [mk2_length]; exact hn) (by rw [mk2_row hn, mk_length]; omega)) ?_ ?_
    · exact Proms.nil
    obtain ⟨h1, h2⟩ := hS.put (g := addN f n fr v (k + 1)) (i := n) (j := k) (v := (mk W (addN f n fr v k n)).getD k 0 ^^^ gmul ((mk W (addN f n fr v k fr)).getD k 0) v) hn (by omega) fun a c _ _ => by
      rw [mk_getD, if_pos (show k < W by omega), mk_getD, if_pos (show k < W by omega)]
      simp only [addN]
      by_cases e : a = n
      · subst e
        by_cases e2 : c = k
        · subst e2; simp [Ne.symm hne]
        · by_cases e3 : c < k
          · simp [e2, e3, Nat.lt_succ_of_lt e3]
          · simp [e2, e3, show ¬ c < k + 1 by omega]
      · simp [e]
    refine go ?_
    exact roundQ_n (k + 1) ⟨rfl, rfl, rfl, rfl, rfl, rfl, rfl, trivial⟩ ⟨by omega, h1, cA.trans h2⟩ (by omega)
  · have : k = W := by omega
    subst this
    refine ret0n ⟨?_, cA⟩
    rw [mk2_congr (f := addN f n fr v k) (g := addF f n fr v) fun i j _ hj => by simp [addN, addF, hj]] at hS
    exact hS
end Go.Proofs.YtaikdcnifijcoaaGreat
set_option linter.unusedVariables false
set_option linter.unusedSimpArgs false
namespace Go.Proofs.YtaikdcnifijcoaaGreat
open Go Go.Vc Go.Gf
theorem reduce1_ok (b k : Nat) (s : Sl) (l : List UInt8) (H : Heap) (hb : Box H b 3 (I64 k)) (hs : Bytes H s l) (hk : k < l.length) : CallsH Tryz.prog 285 [s.val, .pointer (some ⟨b, 0, none⟩)] H fun v H' => v = .bool (dec (l.getD k 0 ≠ 0)) ∧ H = H' := by
  refine CallsH.enter h285 Tryz.func285 rfl rfl rfl (by decide) fun u => go ?_
  exact ret1 ⟨rfl, rfl⟩
def elmN (g : M) (k c n : Nat) : M := fun i j => if i ≠ k ∧ i < n then g i j ^^^ gmul (g i c) (g k j) else g i j
theorem getD_cut {ss : List Sl} {n a j : Nat} (h : a + j < n) : ((ss.take n).drop a).getD j Sl.nil = ss.getD (a + j) Sl.nil := by
  simp [List.getD_eq_getElem?_getD, List.getElem?_drop, List.getElem?_take, h]
set_option maxHeartbeats 1000000 in
theorem reduce_ok (b fb top : Nat) (t : Sl) (ss : List Sl) (R W : Nat) (f : M) (c : Nat) (H : Heap) (h : Sys H b fb top t ss (mk2 R W f) Sl.nil []) (htop : top ≤ H.size) (hc : c ≤ W) (hR : R ≤ 1000000) (hW : W ≤ 1000000) :
    CallsH Tryz.prog 279 [sysV b, I64 c] H fun v H' => v = .tuple #[] ∧ ∃ ss' O', Sys H' b fb top t ss' (mk2 R W (redF R f c).1) O' (redF R f c).2 ∧ Chg (fun x => b ≤ x) H H' := by
  refine CallsH.enter h279 Tryz.func279 rfl rfl rfl (by decide) fun u => go ?_
  refine Wp.loop (ι := Nat × List Sl × Sl) (fun i => [(0, sysV b), (11, I64 c), (12, I64 i.1)]) (fun i A => i.1 ≤ c ∧ Sys A b fb top t i.2.1 (mk2 R W (redF R f i.1).1) i.2.2 (redF R f i.1).2 ∧ Chg (fun x => b ≤ x) H A) (fun i => c - i.1) (0, ss, Sl.nil) ⟨rfl, rfl, rfl, trivial⟩ ⟨Nat.zero_le _, h, Chg.refl _ _⟩ ?_
  rintro ⟨k, ss, O⟩ A ⟨hk, hS, cA⟩
  have hk : k ≤ c := hk
  have hS : Sys A b fb top t ss (mk2 R W (redF R f k).1) O (redF R f k).2 := hS
  have P := redF_plain R f k
  have hnext : redF R f (k + 1) = stepF R k (redF R f k) := rfl
  generalize hred : redF R f k = gs at hS P hnext
  obtain ⟨g, own⟩ := gs
  simp only at hS P
  refine go ?_
  refine Wp.br (fun hlt => ?_) (fun hlt => ?_)
  case refine_2 =>
    have hlt : ¬ (k : Int) < (c : Int) := hlt
    refine go ?_
    have : k = c := by omega
    subst this
    rw [hred]
    exact ret0n ⟨rfl, ss, O, hS, cA⟩
  have hlt : (k : Int) < (c : Int) := hlt
  have hsl : ss.length = R := by have := hS.mat.len; rwa [mk2_length] at this
  have hat := P.le
  have hatop : top ≤ A.size := Nat.le_trans htop cA.size
  refine go ?_
  refine RegS.alloc (fun A1 e1 z1 b1 => ?_)
  refine go ?_
  refine RegS.store (v := I64 k) (Box.wr ⟨b1⟩) ?_
  have x2 : Box (hset A1 ⟨A.size, 0, none⟩ (I64 k)) A.size 3 (I64 k) := Box.set ⟨b1⟩
  have e2 : Ext A (hset A1 ⟨A.size, 0, none⟩ (I64 k)) := e1.then (hset_chg _ _ _) fun y hy => by simp at hy; omega
  have z2 : (hset A1 ⟨A.size, 0, none⟩ (I64 k)).size = A.size + 1 := by rw [hset_size, z1]
  generalize hset A1 ⟨A.size, 0, none⟩ (I64 k) = A2 at x2 e2 z2
  have hS2 := hS.ext e2
  have c2 : Chg (fun x => b ≤ x) H A2 := cA.trans (e2.chg _)
  have hb := hS2.blk
  have hrow := hS2.row
  have hown := hS2.owns
  have htl := hrow.len
  refine go ?_
  refine RegS.cut own.length t.len t.cap (.inr ⟨_, _, rfl, rfl⟩) (.inl ⟨rfl, rfl, rfl⟩) (.inl ⟨rfl, rfl⟩) ⟨by omega, t.le, Nat.le_refl _⟩ ?_
  have hcut := hrow.cut (l := own.length) (h := t.len) (m := t.cap) ⟨by omega, t.le, Nat.le_refl _⟩ (by omega)
  have hcl : ((ss.take t.len).drop own.length).length = R - own.length := by simp; omega
  have asks : Asks 285 [.pointer (some ⟨A.size, 0, none⟩)] ((ss.take t.len).drop own.length) (fun i => g (own.length + i) k ≠ 0) A2 := by
    intro i hi
    rw [hcl] at hi
    rw [getD_cut (by omega)]
    have hB := hS2.mat.bytes (k := own.length + i) (by rw [mk2_length]; omega)
    rw [mk2_row (show own.length + i < R by omega)] at hB
    refine (reduce1_ok A.size k _ _ A2 x2 hB (by rw [mk_length]; omega)).mono ?_
    rintro v H' ⟨rfl, rfl⟩
    rw [mk_getD, if_pos (show k < W by omega)]
    exact ⟨rfl, rfl⟩
  refine go ?_
  refine RegS.call (indexFunc_ok 285 [.pointer (some ⟨A.size, 0, none⟩)] _ _ _ A2 hcut asks (by omega)) ?_
  obtain ⟨f1, f2, f3, f4⟩ := find_spec (f := g) (c := k) P.le
  rintro _ _ ⟨⟨rfl, hno⟩ | ⟨i, hi, rfl, hyes, hbef⟩, rfl⟩
  · rw [hcl] at hno
    have hfind : ¬ find g k R own.length < R := fun hf => by
      have : ¬ g (own.length + (find g k R own.length - own.length)) k ≠ 0 := hno _ (by omega)
      rw [show own.length + (find g k R own.length - own.length) = find g k R own.length by omega] at this
      exact this (f4 hf)
    refine go ?_
    refine roundQ_n (k + 1, ss, O) ⟨rfl, rfl, rfl, trivial⟩ ⟨by simp only; omega, ?_, c2⟩ (by simp only; omega)
    have hst : stepF R k (g, own) = (g, own) := by unfold stepF; rw [if_neg hfind]
    rw [hnext, hst]
    exact hS2
  rw [hcl] at hi
  have hfind : find g k R own.length = own.length + i := by
    rcases Nat.lt_trichotomy (find g k R own.length) (own.length + i) with h1 | h1 | h1
    · have : ¬ g (own.length + (find g k R own.length - own.length)) k ≠ 0 := hbef _ (by omega)
      rw [show own.length + (find g k R own.length - own.length) = find g k R own.length by omega] at this
      exact absurd (f4 (by omega)) this
    · exact h1
    · exact absurd (f3 (own.length + i) (by omega) h1) hyes
  have hst : stepF R k (g, own) = (piv g own.length (own.length + i) k, own ++ [k]) := by
    unfold stepF; rw [if_pos (by rw [hfind]; omega)]; simp only [hfind]
  refine go ?_
  refine RegP.store (hS2.mat.arr.wr (j := own.length) (by simp; omega)) ?_ ?_
  · exact Proms.cons prom (Proms.cons prom (Proms.cons prom Proms.nil))
  have r1 : RowF Sl.val Sl.nil (hset A2 (t.cell own.length) (ss.getD (own.length + i) Sl.nil).val) t (ss.set own.length (ss.getD (own.length + i) Sl.nil)) := by
    obtain ⟨o1, _⟩ := OwnR.set hS2.mat.arr (j := own.length) (by simp; omega) (ss.getD (own.length + i) Sl.nil).val
    rw [← List.map_set] at o1
    exact OwnR.rowF o1
  have hl1 : (ss.set own.length (ss.getD (own.length + i) Sl.nil)).length = R := by simp [hsl]
  obtain ⟨hS3, c3⟩ := hS2.swap (i := own.length) (j := own.length + i) (by omega) (by omega)
  have w3 : Wr (hset A2 (t.cell own.length) (ss.getD (own.length + i) Sl.nil).val) (t.cell (own.length + i)) := by
    obtain ⟨o1, _⟩ := OwnR.set hS2.mat.arr (j := own.length) (by simp; omega) (ss.getD (own.length + i) Sl.nil).val
    exact o1.wr (by simp; omega)
  refine go ?_
  refine RegP.store w3 ?_ ?_
  · exact Proms.nil
  have x3 := x2.chg c3 (fun hx => by omega)
  have z3 := c3.size
  generalize hset (hset A2 (t.cell own.length) (ss.getD (own.length + i) Sl.nil).val) (t.cell (own.length + i)) (ss.getD own.length Sl.nil).val = A3 at hS3 c3 x3 z3
  generalize (ss.set own.length (ss.getD (own.length + i) Sl.nil)).set (own.length + i) (ss.getD own.length Sl.nil) = s3 at hS3
  have c13 := c2.trans (c3.mono fun x _ hx => hx.1)
  clear r1 w3 hl1 hcut asks hrow hb hown
  have hsl3 : s3.length = R := by have := hS3.mat.len; rwa [mk2_length] at this
  have hb := hS3.blk
  have hrow := hS3.row
  have rowB : ∀ {A : Heap} {ss : List Sl} {O : Sl} {g : M} (i : Nat), i < R → Sys A b fb top t ss (mk2 R W g) O own → Bytes A (ss.getD i Sl.nil) (mk W (g i)) := fun i hi hA => by
    have := hA.mat.bytes (k := i) (by rw [mk2_length]; exact hi)
    rwa [mk2_row hi] at this
  have hB := rowB own.length (by omega) hS3
  have hml := mk_length W (swp g own.length (own.length + i) own.length)
  refine go ?_
  refine RegP.call (inv_ok fb _ A3 hS3.field) ?_
  rintro _ _ ⟨rfl, rfl⟩
  refine ⟨.inl (Ext.refl _), ?_⟩
  refine go ?_
  rw [mk_getD, if_pos (show k < W by omega)]
  refine RegS.call (times_ok' b fb top t s3 R W _ O own own.length _ A3 hS3 (by omega) hR hW) ?_
  rintro _ A4 ⟨hS4, c4⟩
  have x4 := x3.chg c4 (fun hx => by omega)
  have z4 := c4.size
  have hb4 := hS4.blk
  have hrow4 := hS4.row
  have hpiv : piv g own.length (own.length + i) k = elm (scl (swp g own.length (own.length + i)) own.length (ginv (swp g own.length (own.length + i) own.length k))) own.length k := rfl
  generalize scl (swp g own.length (own.length + i)) own.length (ginv (swp g own.length (own.length + i) own.length k)) = q at hS4 hpiv
  have c14 := c13.trans (c4.mono fun x _ hx => hx.1)
  refine go ?_
  refine Wp.loop (ι := Nat) (fun j => [(0, sysV b), (4, .pointer (some ⟨A.size, 0, none⟩)), (5, I64 own.length), (11, I64 c), (12, I64 k), (85, t.val), (86, I64 R), (87, I64 j)]) (fun j B => j ≤ R ∧ Sys B b fb top t s3 (mk2 R W (elmN q own.length k j)) O own ∧ Chg (fun x => b ≤ x) H B ∧ Box B A.size 3 (I64 k) ∧ A.size < B.size) (fun j => R - j) 0 ⟨rfl, rfl, rfl, rfl, rfl, rfl, ?_, rfl, trivial⟩ ⟨Nat.zero_le _, ?_, c14, x4, by omega⟩ ?_
  · exact get_int rfl (by rw [hsl3])
  · rw [mk2_congr (f := elmN q own.length k 0) (g := q) fun i j _ _ => by simp [elmN]]; exact hS4
  · rintro j B ⟨hj, hSB, cB, xB, zB⟩
    have hbB := hSB.blk
    have hrowB := hSB.row
    refine go ?_
    refine Wp.br (fun h' => ?_) (fun h' => ?_)
    · have h' : (j : Int) < (R : Int) := h'
      have hBj := rowB j (by omega) hSB
      have hmlj := mk_length W (elmN q own.length k j j)
      refine go ?_
      refine Wp.br (fun h2 => ?_) (fun h2 => ?_) <;> refine go ?_
      · refine roundQ_n (j + 1) ⟨rfl, rfl, rfl, rfl, rfl, rfl, rfl, rfl, trivial⟩ ⟨by omega, ?_, cB, xB, zB⟩ (by omega)
        rw [mk2_congr (f := elmN q own.length k (j + 1)) (g := elmN q own.length k j) fun a y _ _ => by
          simp only [elmN]
          by_cases e : a = own.length
          · simp [e]
          · by_cases e3 : a < j
            · simp [e, e3, Nat.lt_succ_of_lt e3]
            · simp [e, e3, show ¬ a < j + 1 by omega]]
        exact hSB
      · have hne : j ≠ own.length := by omega
        rw [mk_getD, if_pos (show k < W by omega)]
        refine RegS.call (addS_ok b fb top t s3 R W _ O own j own.length _ B hSB (by omega) (by omega) hne hR hW) ?_
        rintro _ B1 ⟨hS5, c5⟩
        have z5 := c5.size
        refine go ?_
        refine roundQ_n (j + 1) ⟨rfl, rfl, rfl, rfl, rfl, rfl, rfl, rfl, trivial⟩ ⟨by omega, ?_, cB.trans (c5.mono fun x _ hx => hx.1), xB.chg c5 (fun hx => by omega), by omega⟩ (by omega)
        rw [mk2_congr (f := elmN q own.length k (j + 1)) (g := addF (elmN q own.length k j) j own.length (elmN q own.length k j j k)) fun a y _ _ => by
          simp only [elmN, addF]
          by_cases e : a = j
          · subst e; simp [hne, gmul_comm (q a k)]
          · by_cases e3 : a < j
            · simp [e, e3, Nat.lt_succ_of_lt e3]
            · simp [e, e3, show ¬ a < j + 1 by omega]]
        exact hS5
    · have h' : ¬ (j : Int) < (R : Int) := h'
      have : j = R := by omega
      subst this
      rw [mk2_congr (f := elmN q own.length k j) (g := elm q own.length k) fun a y ha _ => by
        simp only [elmN, elm]
        by_cases e : a = own.length
        · simp [e]
        · simp [e, ha]] at hSB
      rw [← hpiv] at hSB
      have hbB := hSB.blk
      have hownB := hSB.owns
      refine go ?_
      refine RegP.buildSlice fun B1 o1 y1 w1 => ?_
      have r1 : RowF I64 0 B1 (Sl.fresh B.size 1) [k] := OwnR.rowF (e := 3) (l := [k]) o1
      have hSB1 := hSB.ext y1
      refine go ?_
      have hbz := hSB1.blk.lt
      refine RegP.append (f := I64) (hSB1.own) r1 (fun _ => rfl) (by omega) ?_ ?_ ?_
      · simp; omega
      · simp; omega
      intro O' B2 o2 c2' b2
      obtain ⟨hS6, c6⟩ := hSB1.putOwn o2 c2' b2
      have hb2 : Blk B2 b 301 [fieldV fb, t.val, O.val] := hSB1.blk.chg c2' fun hx => by have := (hSB1.own.blk_ge hx).1; omega
      refine ⟨.inr ?_, ?_⟩
      · exact Proms.cons prom Proms.nil
      refine go ?_
      refine RegP.store (hb2.wr (j := 2) (by simp)) ?_ ?_
      · exact Proms.nil
      refine go ?_
      refine roundQ_n (k + 1, s3, O') ⟨rfl, rfl, rfl, trivial⟩ ⟨by simp only; omega, ?_, (cB.trans (y1.chg _)).trans c6⟩ (by simp only; omega)
      rw [hnext, hst]
      exact hS6
end Go.Proofs.YtaikdcnifijcoaaGreat
