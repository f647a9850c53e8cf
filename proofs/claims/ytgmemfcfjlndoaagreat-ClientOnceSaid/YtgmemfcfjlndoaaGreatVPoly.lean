/-
  The walks of package poly.
-/
import Derived.Test.YtgmemfcfjlndoaaGreatVcMem
import Derived.Test.YtgmemfcfjlndoaaGreatVGf
import Derived.Test.YtgmemfcfjlndoaaGreatVPlain
set_option linter.unusedVariables false
set_option linter.unusedSimpArgs false
namespace Go.Proofs.YtgmemfcfjlndoaaGreat
open Go Go.Vc Go.Gf

theorem degree_ok (s : Sl) (l : List UInt8) (H : Heap) (hb : Bytes H s l) (hl : l.length ≤ 9223372036854775807) : CallsH Tryz.prog 253 [s.val] H fun v H' => v = .int .i64 ((deg1 l : Int) - 1) ∧ H = H' := by
  refine CallsH.enter h253 Tryz.func253 rfl rfl rfl (by decide) fun u => go ?_
  refine Wp.loop (ι := Nat) (fun n => [(0, s.val), (3, .int .i64 ((n : Int) - 1))]) (fun n A => n ≤ l.length ∧ degN l n = deg1 l ∧ H = A) (fun n => n) l.length ⟨rfl, rfl, trivial⟩ ⟨Nat.le_refl _, rfl, rfl⟩ ?_
  rintro n _ ⟨hn, hd, rfl⟩
  refine go ?_
  refine RegS.sp (fun h => ?_) (fun h => ?_)
  · obtain ⟨m, rfl⟩ : ∃ m, n = m + 1 := ⟨n - 1, by omega⟩
    have e : ((m + 1 : Nat) : Int) - 1 = (m : Int) := by omega
    rw [e]
    refine go ?_
    refine Wp.br (fun h' => ?_) (fun h' => ?_) <;> refine go ?_
    · refine roundQ_n m ⟨rfl, rfl, trivial⟩ ⟨by omega, ?_, rfl⟩ (by omega)
      rw [← hd, degN, if_pos h']
    · refine ret1 ⟨?_, rfl⟩
      rw [← hd, degN, if_neg (show ¬ l.getD m 0 = 0 from h')]; rw [e]
  · refine go ?_
    refine ret1 ⟨?_, rfl⟩
    have : n = 0 := by omega
    subst this
    rw [← hd, degN]

theorem clip_ok (s : Sl) (l : List UInt8) (base : Nat) (H : Heap) (hm : Mine H base s l) : CallsH Tryz.prog 191 [s.val] H fun v H' => v = (s.cut 0 s.len s.len).val ∧ H = H' := by
  have hb := hm.bytes
  have hcap := hm.cap
  refine CallsH.enter h191 Tryz.func191 rfl rfl rfl (by decide) fun u => go ?_
  refine RegS.cut 0 l.length l.length (.inl ⟨rfl, rfl⟩) (.inr ⟨_, _, rfl, rfl⟩) (.inr ⟨_, _, rfl, rfl⟩) ?_ ?_
  · have := s.le; have := hb.len; omega
  refine go ?_
  exact ret1 ⟨by rw [hb.len], rfl⟩

theorem trim_ok (s : Sl) (l : List UInt8) (base : Nat) (H : Heap) (hm : Mine H base s l) : CallsH Tryz.prog 231 [s.val] H fun v H' => ∃ s' : Sl, v = s'.val ∧ Mine H base s' (tl l) ∧ (∀ b, s'.blk = some b → s.blk = some b) ∧ H = H' := by
  have hb := hm.bytes
  have hcap := hm.cap
  have hlen := hb.len
  have hle := s.le
  have hd := deg1_le l
  refine CallsH.enter h231 Tryz.func231 rfl rfl rfl (by decide) fun u => go ?_
  refine RegS.call (degree_ok s l H hb (by omega)) ?_
  rintro _ _ ⟨rfl, rfl⟩
  refine go ?_
  have e : (deg1 l : Int) - 1 + ((1 : Nat) : Int) = (deg1 l : Int) := by omega
  rw [e]
  have hh : 0 ≤ deg1 l ∧ deg1 l ≤ s.cap ∧ s.cap ≤ s.cap := by omega
  refine RegS.cut 0 (deg1 l) s.cap (.inl ⟨rfl, rfl⟩) (.inr ⟨_, _, rfl, rfl⟩) (.inl ⟨rfl, rfl⟩) hh ?_
  refine go ?_
  have hm1 : Mine H base (s.cut 0 (deg1 l) s.cap) (tl l) := by
    have := hm.cut hh hd
    simpa [tl] using this
  refine RegS.call (clip_ok _ _ base H hm1) ?_
  rintro _ _ ⟨rfl, rfl⟩
  refine go ?_
  have hl1 := hm1.bytes.len
  rw [tl_length] at hl1
  have hc1 := Sl.cut_cap hh
  have hh2 : 0 ≤ (s.cut 0 (deg1 l) s.cap).len ∧ (s.cut 0 (deg1 l) s.cap).len ≤ (s.cut 0 (deg1 l) s.cap).len ∧ (s.cut 0 (deg1 l) s.cap).len ≤ (s.cut 0 (deg1 l) s.cap).cap := ⟨Nat.zero_le _, Nat.le_refl _, Sl.le _⟩
  have hm2 := hm1.cut hh2 (by rw [tl_length]; omega)
  refine ret1 ⟨_, rfl, ?_, fun b hb => Sl.cut_blk (Sl.cut_blk hb), rfl⟩
  have : (tl l).take (s.cut 0 (deg1 l) s.cap).len = tl l := List.take_of_length_le (by rw [tl_length]; omega)
  simpa [this] using hm2

theorem clone_ok (s : Sl) (l : List UInt8) (H : Heap) (hb : Bytes H s l) (hl : l.length ≤ 140737488355328) : CallsH Tryz.prog 56 [s.val] H fun v H' => ∃ s' : Sl, v = s'.val ∧ OwnF B8 H' H.size 5 s' l ∧ Ext H H' := by
  refine CallsH.enter h56 Tryz.func56 rfl rfl rfl (by decide) fun u => go ?_
  refine Wp.brB (fun h => ?_) (fun h => ?_) <;> refine go ?_
  · have h0 := s.ok (by simpa using h)
    have hl0 : l = [] := List.eq_nil_of_length_eq_zero (by have := hb.len; omega)
    subst hl0
    exact ret1 ⟨_, rfl, OwnR.nil _ _ _ _, Ext.refl _⟩
  · refine RegS.buildSlice fun H1 o1 e1 z1 => ?_
    refine go ?_
    refine RegS.append (l' := []) (f := B8) o1 (hb.ext e1) (fun _ => rfl) ?_ ?_ ?_ ?_
    · omega
    · simpa using hl
    · simp; omega
    intro s' H2 o2 c2 b2
    refine go ?_
    exact ret1 ⟨_, rfl, o2, e1.then c2 fun b hb => (o1.blk_ge hb).1⟩

theorem add_ok (s r : Sl) (l m : List UInt8) (H : Heap) (hs : Bytes H s l) (hr : Bytes H r m) (hl : l.length ≤ 140737488355328) (hm : m.length ≤ 140737488355328) : CallsH Tryz.prog 173 [s.val, r.val] H (New H (tl (xadd l m))) := by
  refine CallsH.enter h173 Tryz.func173 rfl rfl rfl (by decide) fun u => go ?_
  refine Wp.mid (ι := (Sl × Sl) × (List UInt8 × List UInt8)) (fun i => [(0, i.1.1.val), (1, i.1.2.val)]) (fun i A => H = A ∧ Bytes H i.1.1 i.2.1 ∧ Bytes H i.1.2 i.2.2 ∧ i.2.2.length ≤ i.2.1.length ∧ i.2.1.length ≤ 140737488355328 ∧ xadd i.2.1 i.2.2 = xadd l m) ?_ ?_
  · refine Wp.br (fun h => ?_) (fun h => ?_) <;> refine go ?_
    · exact midQ_n ((r, s), (m, l)) ⟨rfl, rfl, trivial⟩ ⟨rfl, hr, hs, by simp only; omega, hm, xadd_comm _ _⟩
    · exact midQ_n ((s, r), (l, m)) ⟨rfl, rfl, trivial⟩ ⟨rfl, hs, hr, by simp only; omega, hl, rfl⟩
  rintro ⟨⟨s', r'⟩, ⟨l', m'⟩⟩ _ ⟨rfl, hs', hr', hle, hl', hx⟩
  simp only at hs' hr' hle hl' hx ⊢
  rw [← hx]
  refine go ?_
  refine RegS.call (clone_ok s' l' H hs' hl') ?_
  rintro _ H1 ⟨t, rfl, ho, e1⟩
  have hr1 := hr'.ext e1
  refine go ?_
  refine Wp.loop (ι := Nat) (fun k => [(5, t.val), (17, r'.val), (18, I64 m'.length), (19, I64 k)]) (fun k A => k ≤ m'.length ∧ Mine A H.size t (xaddN l' m' k) ∧ Ext H A) (fun k => m'.length - k) 0 ⟨rfl, rfl, rfl, rfl, trivial⟩ ⟨Nat.zero_le _, by rw [xaddN_zero]; exact ho.mine, e1⟩ ?_
  rintro k A ⟨hk, hM, eA⟩
  have hMb := hM.bytes
  have hlen : (xaddN l' m' k).length = l'.length := by simp [xaddN, mk_length]
  have hrA := hr'.ext eA
  refine go ?_
  refine Wp.br (fun h => ?_) (fun h => ?_) <;> refine go ?_
  · refine RegS.store (hM.wr (j := k) (by omega)) ?_
    refine go ?_
    obtain ⟨h1, h2⟩ := hM.set (j := k) (by omega) ((xaddN l' m' k).getD k 0 ^^^ m'.getD k 0)
    refine roundQ_n (k + 1) ⟨rfl, rfl, rfl, rfl, trivial⟩ ⟨by omega, ?_, eA.then h2 fun b hb => (hM.blk b hb).1⟩ (by omega)
    rw [← xaddN_succ (by omega)]
    exact h1
  · have : k = m'.length := by omega
    subst this
    rw [xaddN_all hle] at hM
    refine RegS.call (trim_ok t _ _ _ hM) ?_
    rintro _ _ ⟨t', rfl, hM', _, rfl⟩
    refine go ?_
    exact ret1 ⟨t', rfl, hM', eA⟩

theorem mulP_ok (fb : Nat) (s r : Sl) (l m : List UInt8) (H : Heap) (hF : IsField H fb) (hs : Bytes H s l) (hr : Bytes H r m) (hl : l.length ≤ 140737488355328) (hm : m.length ≤ 140737488355328) : CallsH Tryz.prog 174 [fieldV fb, s.val, r.val] H (New H (tl (conv gmul l m))) := by
  refine CallsH.enter h174 Tryz.func174 rfl rfl rfl (by decide) fun u => go ?_
  refine RegS.makeSlice (n := l.length + m.length) ?_ ?_ fun H1 o1 e1 z1 => ?_
  · omega
  · omega
  refine go ?_
  have hM0 : Mine H1 H.size (Sl.fresh H.size (l.length + m.length)) (convO gmul l m 0) := by
    have : (List.replicate (l.length + m.length) (Value.int .u8 0)) = (convO gmul l m 0).map B8 := by simp [convO, B8]
    rw [this] at o1
    exact OwnR.mine o1
  have hs1 := hs.ext e1
  refine Wp.loop (ι := Nat) (fun k => [(0, fieldV fb), (2, r.val), (7, (Sl.fresh H.size (l.length + m.length)).val), (18, s.val), (19, I64 l.length), (20, I64 k)]) (fun k A => k ≤ l.length ∧ Mine A H.size (Sl.fresh H.size (l.length + m.length)) (convO gmul l m k) ∧ Ext H A) (fun k => l.length - k) 0 ⟨rfl, rfl, rfl, rfl, rfl, rfl, trivial⟩ ⟨Nat.zero_le _, hM0, e1⟩ ?_
  rintro k A ⟨hk, hM, eA⟩
  have hsA := hs.ext eA
  have hrA := hr.ext eA
  refine go ?_
  refine Wp.br (fun h => ?_) (fun h => ?_) <;> refine go ?_
  · refine Wp.loop (ι := Nat) (fun j => [(0, fieldV fb), (2, r.val), (7, (Sl.fresh H.size (l.length + m.length)).val), (8, I64 k), (9, B8 (l.getD k 0)), (18, s.val), (19, I64 l.length), (20, I64 k), (25, r.val), (26, I64 m.length), (27, I64 j)])
      (fun j A' => j ≤ m.length ∧ Mine A' H.size (Sl.fresh H.size (l.length + m.length)) (convI gmul (convO gmul l m k) k (l.getD k 0) m j) ∧ Ext H A') (fun j => m.length - j) 0 ⟨rfl, rfl, rfl, rfl, rfl, rfl, rfl, rfl, rfl, rfl, rfl, trivial⟩ ⟨Nat.zero_le _, hM, eA⟩ ?_
    rintro j A' ⟨hj, hM', eA'⟩
    have hrA' := hr.ext eA'
    have hFA := hF.ext eA'
    have hb' := hM'.bytes
    have hlen' : (convI gmul (convO gmul l m k) k (l.getD k 0) m j).length = l.length + m.length := by rw [convI_length, convO_length]
    refine go ?_
    refine Wp.br (fun h' => ?_) (fun h' => ?_) <;> refine go ?_
    · refine RegP.call (mul_ok fb _ _ _ hFA) ?_
      rintro _ _ ⟨rfl, rfl⟩
      refine ⟨.inl (Ext.refl _), ?_⟩
      refine go ?_
      refine RegP.store (hM'.wr (j := k + j) (by omega)) ?_ ?_
      · exact Proms.nil
      refine go ?_
      obtain ⟨h1, h2⟩ := hM'.set (j := k + j) (by omega) ((convI gmul (convO gmul l m k) k (l.getD k 0) m j).getD (k + j) 0 ^^^ gmul (l.getD k 0) (m.getD j 0))
      refine roundQ_n (j + 1) ⟨rfl, rfl, rfl, rfl, rfl, rfl, rfl, rfl, rfl, rfl, rfl, trivial⟩ ⟨by omega, ?_, eA'.then h2 fun b hb => (hM'.blk b hb).1⟩ (by omega)
      rw [convI_succ]
      exact h1
    · refine roundQ_n (k + 1) ⟨rfl, rfl, rfl, rfl, rfl, rfl, trivial⟩ ⟨by omega, ?_, eA'⟩ (by omega)
      have : j = m.length := by omega
      subst this
      rw [convO_succ]
      exact hM'
  · have : k = l.length := by omega
    subst this
    refine RegS.call (trim_ok _ _ _ _ hM) ?_
    rintro _ _ ⟨t', rfl, hM', _, rfl⟩
    refine go ?_
    exact ret1 ⟨t', rfl, hM', eA⟩

theorem backward_ok (s : Sl) (H : Heap) : CallsH Tryz.prog 240 [s.val] H fun v H' => ∃ b, v = .func (.func 267) #[] #[.pointer (some ⟨b, 0, none⟩)] ∧ Box H' b 36 s.val ∧ Ext H H' ∧ H.size ≤ b := by
  refine CallsH.enter h240 Tryz.func240 rfl rfl rfl (by decide) fun u => go ?_
  refine RegS.box (fun H1 e1 z1 b1 => ?_)
  refine go ?_
  exact ret1 ⟨_, rfl, ⟨b1⟩, e1, Nat.le_refl _⟩

theorem backward1_iter (s : Sl) (l : List UInt8) (b : Nat) (hl : l.length ≤ 9223372036854775807) : Iter Tryz.prog 267 [.pointer (some ⟨b, 0, none⟩)] l.length (fun k _ vs => vs = [I64 (l.length - 1 - k), B8 (l.getD (l.length - 1 - k) 0)]) (fun H => Box H b 36 s.val ∧ Bytes H s l) := by
  intro y J Jx H hpre hext hextx hY h0
  obtain ⟨hbox, hbs⟩ := hpre _ _ h0
  refine CallsH.enter h267 Tryz.func267 rfl rfl rfl (by decide) fun u => go ?_
  refine Wp.loop (ι := Nat) (fun k => [(0, .func (.yield y) #[] #[]), (1, .pointer (some ⟨b, 0, none⟩)), (3, .int .i64 ((l.length : Int) - 1 - (k : Int)))]) (fun k A => k ≤ l.length ∧ J k A) (fun k => l.length - k) 0 ⟨rfl, rfl, ?_, trivial⟩ ⟨by omega, h0⟩ ?_
  · exact get_int rfl (by omega)
  rintro k A ⟨hk, hJ⟩
  obtain ⟨hbox, hbs⟩ := hpre _ _ hJ
  refine go ?_
  refine Wp.br (fun h => ?_) (fun h => ?_)
  · have e : ((l.length : Int) - 1 - (k : Int)) = ((l.length - 1 - k : Nat) : Int) := by omega
    rw [e]
    refine go ?_
    refine RegS.yieldC (hY k A _ (by omega) hJ rfl) ?_
    rintro v H2 ⟨hA, ⟨rfl, hJ'⟩ | ⟨rfl, hJ'⟩⟩ <;> refine go ?_
    · refine roundQ_n (k + 1) ⟨rfl, rfl, ?_, trivial⟩ ⟨by omega, hJ'⟩ (by omega)
      exact get_int rfl (by omega)
    · exact ret0 (.inr hJ')
  · refine go ?_
    refine ret0n (.inl ?_)
    have : k = l.length := by omega
    rw [← this]; exact hJ

theorem eval_ok (fb : Nat) (s : Sl) (l : List UInt8) (x : UInt8) (H : Heap) (hF : IsField H fb) (hs : Bytes H s l) (hl : l.length ≤ 9223372036854775807) : CallsH Tryz.prog 186 [fieldV fb, s.val, B8 x] H fun v H' => v = B8 (hor x l) ∧ Ext H H' := by
  refine CallsH.enter h186 Tryz.func186 rfl rfl rfl (by decide) fun u => go ?_
  refine RegS.box (fun H1 e1 z1 b1 => ?_)
  refine go ?_
  refine RegS.box (fun H2 e2 z2 b2 => ?_)
  refine go ?_
  refine RegS.alloc (fun H3 e3 z3 b3 => ?_)
  refine go ?_
  refine RegS.store (v := B8 0) (Box.wr ⟨b3⟩) ?_
  have b4 := Box.set (u := B8 0) ⟨b3⟩
  have x4 : Ext H (hset H3 ⟨H2.size, 0, none⟩ (B8 0)) := (e1.trans (e2.trans e3)).then (hset_chg _ _ _) fun b hb => by simp at hb; omega
  have c1 : Box (hset H3 ⟨H2.size, 0, none⟩ (B8 0)) H.size 98 (fieldV fb) := (Box.ext ⟨b1⟩ (e2.trans e3)).chg (hset_chg _ _ _) (by simp; omega)
  have c2 : Box (hset H3 ⟨H2.size, 0, none⟩ (B8 0)) H1.size 5 (B8 x) := (Box.ext ⟨b2⟩ e3).chg (hset_chg _ _ _) (by simp; omega)
  generalize hset H3 ⟨H2.size, 0, none⟩ (B8 0) = H4 at b4 x4 c1 c2
  refine go ?_
  refine RegS.call (backward_ok s H4) ?_
  rintro _ H5 ⟨bb, rfl, b5, x5, g5⟩
  refine go ?_
  have z4 : H2.size < H4.size := b4.lt
  refine Wp.rangeA (backward1_iter s l bb hl) (fun k => [(3, fieldV H.size), (5, fieldV H1.size), (7, fieldV H2.size), (9, B8 (l.getD (l.length - 1 - k) 0))])
    (fun k A => Ext H A ∧ Box A H.size 98 (fieldV fb) ∧ Box A H1.size 5 (B8 x) ∧ Box A H2.size 5 (B8 (hor x (l.drop (l.length - k)))) ∧ Box A bb 36 s.val) (fun _ _ => False) ?_ ?_ (fun _ _ _ _ h => h.elim) ?_ ?_ ?_ ?_ (fun _ _ _ _ h => h.elim)
  · rintro k A ⟨q, _, _, _, q'⟩
    exact ⟨q', hs.ext q⟩
  · rintro k A B S ⟨q1, q2, q3, q4, q5⟩ c hS
    have z5 := x5.size
    have y5 := b5.lt
    have := x4.size
    exact ⟨q1.then c fun b hb => by have := hS b hb; omega, q2.chg c fun h => by have := hS _ h; omega, q3.chg c fun h => by have := hS _ h; omega, q4.chg c fun h => by have := hS _ h; omega, q5.chg c fun h => by have := hS _ h; omega⟩
  · exact ⟨x4.trans x5, c1.ext x5, c2.ext x5, (by simpa [hor] using b4.ext x5), b5⟩
  · intro u l' k hk A
    refine go ?_
    exact ⟨rfl, rfl, rfl, rfl, rfl, rfl, rfl, trivial⟩
  · rintro u l' k A hk ⟨q1, q2, q3, q4, q5⟩
    have hFA := hF.ext q1
    refine go ?_
    refine RegS.call (mul_ok fb _ _ _ hFA) ?_
    rintro _ _ ⟨rfl, rfl⟩
    refine go ?_
    refine RegS.store q4.wr ?_
    refine go ?_
    have hc := hset_chg A ⟨H2.size, 0, none⟩ (B8 (gmul (hor x (l.drop (l.length - k))) x ^^^ l.getD (l.length - 1 - k) 0))
    have y5 := b5.lt
    refine bodyQ_n (hc.above fun b hb => by simp at hb; have := x5.size; omega) ⟨q1.then hc fun b hb => by simp at hb; omega, q2.chg hc (by simp; omega), q3.chg hc (by simp; omega), ?_, q5.chg hc (by simp; omega)⟩
    rw [hor_step hk]
    exact Box.set q4
  · rintro A D hD ⟨q1, q2, q3, q4, q5⟩ hd
    refine go ?_
    have hz := b5.lt
    refine ret1d hd ⟨?_, put_ext q1 (by have := x5.size; have := x4.size; omega)⟩
    simp

/-- What Div hands back. -/
def DivR (H : Heap) (p d : List UInt8) (v : Value) (H' : Heap) : Prop :=
  Ext H H' ∧ if deg1 d = 0 then v = .tuple #[Sl.nil.val, Sl.nil.val, .bool false]
  else ∃ s r : Sl, v = .tuple #[s.val, r.val, .bool true] ∧ Mine H' H.size s (tl (divL p d).1) ∧ Mine H' H.size r (tl (divL p d).2) ∧ (∀ b, s.blk = some b → r.blk ≠ some b)
theorem divP_ok (fb : Nat) (s r : Sl) (l m : List UInt8) (H : Heap) (hF : IsField H fb) (hs : Bytes H s l) (hr : Bytes H r m) (hl : l.length ≤ 140737488355328) (hm : m.length ≤ 140737488355328) : CallsH Tryz.prog 251 [fieldV fb, s.val, r.val] H (DivR H l m) := by
  refine CallsH.enter h251 Tryz.func251 rfl rfl rfl (by decide) fun u => go ?_
  refine RegS.call (degree_ok r m H hr (by omega)) ?_
  rintro _ _ ⟨rfl, rfl⟩
  refine go ?_
  have hdl := deg1_le m
  refine Wp.br (fun h => ?_) (fun h => ?_)
  · refine go ?_
    exact ret3 ⟨Ext.refl _, by rw [if_pos (by omega)]⟩
  obtain ⟨low, hlow⟩ : ∃ low, deg1 m = low + 1 := ⟨deg1 m - 1, by omega⟩
  have e : (deg1 m : Int) - 1 = (low : Int) := by omega
  rw [e]
  refine go ?_
  refine RegS.call (inv_ok fb _ _ hF) ?_
  rintro _ _ ⟨rfl, rfl⟩
  refine go ?_
  refine RegS.call (clone_ok s l _ hs hl) ?_
  rintro _ H1 ⟨t, rfl, ho, e1⟩
  refine go ?_
  have hs1 := hs.ext e1
  refine RegS.makeSlice (n := l.length) ?_ ?_ fun H2 o2 e2 z2 => ?_
  · omega
  · omega
  refine go ?_
  have hr2 : Mine H2 H.size t l := ho.mine.ext e2
  have hq2 : Mine H2 H1.size (Sl.fresh H1.size l.length) (List.replicate l.length 0) := by
    have : (List.replicate l.length (Value.int .u8 0)) = (List.replicate l.length (0 : UInt8)).map B8 := by simp [B8]
    rw [this] at o2
    exact OwnR.mine o2
  have hr2b := hr2.bytes
  refine RegS.call (degree_ok t l _ hr2b (by omega)) ?_
  rintro _ _ ⟨rfl, rfl⟩
  refine go ?_
  have e1' : deg1 m - 1 = low := by omega
  refine Wp.loop (ι := List UInt8 × List UInt8) (fun i => [(0, fieldV fb), (2, r.val), (6, (Sl.fresh H1.size l.length).val), (7, t.val), (9, I64 low), (10, B8 (ginv (m.getD low 0))), (12, .int .i64 ((deg1 i.1 : Int) - 1))])
    (fun i A => Mine A H.size t i.1 ∧ Mine A H1.size (Sl.fresh H1.size l.length) i.2 ∧ Ext H A ∧ i.1.length = l.length ∧ i.2.length = l.length ∧ ∃ n, deg1 i.1 ≤ n ∧ divF m (ginv (m.getD low 0)) n i.1 i.2 = divL l m) (fun i => deg1 i.1) (l, List.replicate l.length 0)
    ⟨rfl, rfl, rfl, rfl, rfl, rfl, rfl, trivial⟩ ⟨hr2, hq2, e1.trans e2, rfl, by simp, l.length, deg1_le l, by simp only [divL, e1']⟩ ?_
  rintro ⟨r', q'⟩ A ⟨hR, hQ, eA, hrl, hql, n, hn, hd⟩
  simp only at hR hQ hrl hql hn hd
  have hRb := hR.bytes
  have hQb := hQ.bytes
  have hrle := deg1_le r'
  have hFA := hF.ext eA
  have hrA := hr.ext eA
  have hne : ∀ b, t.blk = some b → b < H1.size := fun b hb => (ho.blk_ge hb).2
  refine go ?_
  refine Wp.br (fun h => ?_) (fun h => ?_)
  · have h : (low : Int) ≤ (deg1 r' : Int) - 1 := h
    obtain ⟨top, htop⟩ : ∃ top, deg1 r' = top + 1 := ⟨deg1 r' - 1, by omega⟩
    have hlt0 : low ≤ top := by omega
    have e2 : (deg1 r' : Int) - 1 = (top : Int) := by omega
    rw [e2]
    refine go ?_
    refine RegS.call (mul_ok fb _ _ _ hFA) ?_
    rintro _ _ ⟨rfl, rfl⟩
    refine go ?_
    refine RegS.store (hQ.wr (j := top - low) (by omega)) ?_
    obtain ⟨h1, h2⟩ := hQ.set (j := top - low) (by omega) (gmul (r'.getD top 0) (ginv (m.getD low 0)))
    have hR1 : Mine _ H.size t r' := hR.chg h2 fun b hb hb' => by
      have := hne b hb
      have := (hQ.blk b hb').1
      omega
    have eA1 := eA.then h2 fun b hb => by have := (hQ.blk b hb).1; have := e1.size; omega
    generalize hset A ((Sl.fresh H1.size l.length).cell (top - low)) (B8 (gmul (r'.getD top 0) (ginv (m.getD low 0)))) = A1 at h1 h2 hR1 eA1
    refine go ?_
    have hc : ∀ j, (convI gmul r' (top - low) (gmul (r'.getD top 0) (ginv (m.getD low 0))) m j).length = l.length := fun j => by rw [convI_length, hrl]
    refine Wp.loop (ι := Nat) (fun j => [(0, fieldV fb), (2, r.val), (6, (Sl.fresh H1.size l.length).val), (7, t.val), (9, I64 low), (10, B8 (ginv (m.getD low 0))), (12, I64 top), (13, B8 (gmul (r'.getD top 0) (ginv (m.getD low 0)))), (54, I64 (low + 1)), (55, I64 j)])
      (fun j A' => j ≤ low + 1 ∧ Mine A' H.size t (convI gmul r' (top - low) (gmul (r'.getD top 0) (ginv (m.getD low 0))) m j) ∧ Mine A' H1.size (Sl.fresh H1.size l.length) (q'.set (top - low) (gmul (r'.getD top 0) (ginv (m.getD low 0)))) ∧ Ext H A')
      (fun j => low + 1 - j) 0 ⟨rfl, rfl, rfl, rfl, rfl, rfl, rfl, rfl, rfl, rfl, trivial⟩ ⟨by omega, hR1, h1, eA1⟩ ?_
    rintro j A' ⟨hj, hR', hQ', eA'⟩
    have hRb' := hR'.bytes
    have hFA' := hF.ext eA'
    have hrA' := hr.ext eA'
    have hcj := hc j
    refine go ?_
    refine Wp.br (fun h' => ?_) (fun h' => ?_) <;> refine go ?_
    · refine RegP.call (mul_ok fb _ _ _ hFA') ?_
      rintro _ _ ⟨rfl, rfl⟩
      refine ⟨.inl (Ext.refl _), ?_⟩
      refine go ?_
      refine RegP.store (hR'.wr (j := top - low + j) (by omega)) ?_ ?_
      · exact Proms.nil
      refine go ?_
      obtain ⟨h3, h4⟩ := hR'.set (j := top - low + j) (by omega) ((convI gmul r' (top - low) (gmul (r'.getD top 0) (ginv (m.getD low 0))) m j).getD (top - low + j) 0 ^^^ gmul (gmul (r'.getD top 0) (ginv (m.getD low 0))) (m.getD j 0))
      refine roundQ_n (j + 1) ⟨rfl, rfl, rfl, rfl, rfl, rfl, rfl, rfl, rfl, rfl, trivial⟩ ⟨by omega, by rw [convI_succ]; exact h3, hQ'.chg h4 (fun b hb hb' => ?_), eA'.then h4 fun b hb => (hR'.blk b hb).1⟩ (by omega)
      have := hne b hb'
      have := (hQ'.blk b hb).1
      omega
    · have hj' : j = low + 1 := by omega
      subst hj'
      have hdr : divR m (ginv (m.getD low 0)) r' = convI gmul r' (top - low) (gmul (r'.getD top 0) (ginv (m.getD low 0))) m (low + 1) := by
        unfold divR; rw [htop, hlow]; simp
      have hdq : divQ m (ginv (m.getD low 0)) r' q' = q'.set (top - low) (gmul (r'.getD top 0) (ginv (m.getD low 0))) := by
        unfold divQ; rw [htop, hlow]; simp
      have hlt := divR_lt (d := m) (r := r') (by omega) (by omega)
      rw [e1', hdr] at hlt
      refine RegS.call (degree_ok t _ A' hRb' (by omega)) ?_
      rintro _ _ ⟨rfl, rfl⟩
      refine go ?_
      obtain ⟨n', rfl, hs'⟩ := divF_step (d := m) (n := n) (inv := ginv (m.getD low 0)) (r := r') (q := q') (by omega) (by omega) hn
      rw [hdr, hdq, hd] at hs'
      exact roundQ_n (convI gmul r' (top - low) (gmul (r'.getD top 0) (ginv (m.getD low 0))) m (low + 1), q'.set (top - low) (gmul (r'.getD top 0) (ginv (m.getD low 0)))) ⟨rfl, rfl, rfl, rfl, rfl, rfl, rfl, trivial⟩ ⟨hR', hQ', eA', hcj, by simpa using hql, n', Nat.le_of_lt_succ (Nat.lt_of_lt_of_le hlt hn), hs'.symm⟩ hlt
  · have h : ¬ (low : Int) ≤ (deg1 r' : Int) - 1 := h
    refine go ?_
    rw [divF_end (by omega)] at hd
    refine RegS.call (trim_ok _ _ _ _ hQ) ?_
    rintro _ _ ⟨q'', rfl, hQ'', bQ, rfl⟩
    refine go ?_
    refine RegS.call (trim_ok _ _ _ _ hR) ?_
    rintro _ _ ⟨r'', rfl, hR'', bR, rfl⟩
    refine go ?_
    refine ret3 ⟨eA, ?_⟩
    rw [if_neg (by omega)]
    refine ⟨q'', r'', rfl, ?_, ?_, fun b hb hb' => ?_⟩
    · rw [← hd]; exact hQ''.low (by have := e1.size; omega)
    · rw [← hd]; exact hR''
    · have := hne b (bR b hb')
      have := (hQ.blk b (bQ b hb)).1
      omega

theorem roots_ok (fb : Nat) (s : Sl) (xs : List UInt8) (H : Heap) (hF : IsField H fb) (hs : Bytes H s xs) (hl : xs.length ≤ 35184372088832) : CallsH Tryz.prog 170 [fieldV fb, s.val] H (New H (roots gmul xs)) := by
  refine CallsH.enter h170 Tryz.func170 rfl rfl rfl (by decide) fun u => go ?_
  refine RegS.buildSlice fun H1 o1 e1 z1 => ?_
  have m1 : Mine H1 H.size (Sl.fresh H.size 1) [1] := OwnR.mine (e := 5) o1
  refine go ?_
  refine Wp.loop (ι := Nat × Sl) (fun i => [(0, fieldV fb), (5, i.2.val), (9, s.val), (10, I64 xs.length), (11, I64 i.1)]) (fun i A => i.1 ≤ xs.length ∧ Mine A H.size i.2 (rootsN gmul xs i.1) ∧ Ext H A) (fun i => xs.length - i.1) (0, Sl.fresh H.size 1) ⟨rfl, rfl, rfl, rfl, rfl, trivial⟩ ⟨Nat.zero_le _, m1, e1⟩ ?_
  rintro ⟨k, t⟩ A ⟨hk, hM, eA⟩
  have hk : k ≤ xs.length := hk
  have hM : Mine A H.size t (rootsN gmul xs k) := hM
  have hsA := hs.ext eA
  refine go ?_
  refine Wp.br (fun h => ?_) (fun h => ?_)
  · have h : (k : Int) < (xs.length : Int) := h
    refine go ?_
    refine RegS.buildSlice fun H2 o2 e2 z2 => ?_
    have m2 : Mine H2 A.size (Sl.fresh A.size 2) [xs.getD k 0, 1] := OwnR.mine (e := 5) o2
    refine go ?_
    have hr := rootsN_length gmul xs k
    refine RegS.call (mulP_ok fb t (Sl.fresh A.size 2) (rootsN gmul xs k) [xs.getD k 0, 1] H2 (hF.ext (eA.trans e2)) (hM.ext e2).bytes m2.bytes (by omega) (by simp)) ?_
    rintro _ H3 ⟨t', rfl, hM', e3⟩
    refine go ?_
    refine roundQ_n (k + 1, t') ⟨rfl, rfl, rfl, rfl, rfl, trivial⟩ ⟨by simp only; omega, hM'.low ?_, (eA.trans e2).trans e3⟩ (by simp only; omega)
    have := eA.size; have := e2.size; omega
  · have h : ¬ (k : Int) < (xs.length : Int) := h
    refine go ?_
    have : k = xs.length := by omega
    subst this
    exact ret1 ⟨t, rfl, hM, eA⟩
theorem others_ok (fb : Nat) (s : Sl) (H : Heap) : CallsH Tryz.prog 229 [fieldV fb, s.val] H fun v H' => ∃ b c, v = .func (.func 250) #[] #[.pointer (some ⟨b, 0, none⟩), .pointer (some ⟨c, 0, none⟩)] ∧ Box H' b 98 (fieldV fb) ∧ Box H' c 36 s.val ∧ Ext H H' ∧ H.size ≤ b ∧ H.size ≤ c := by
  refine CallsH.enter h229 Tryz.func229 rfl rfl rfl (by decide) fun u => go ?_
  refine RegS.box (fun H1 e1 z1 b1 => ?_)
  refine go ?_
  refine RegS.box (fun H2 e2 z2 b2 => ?_)
  refine go ?_
  exact ret1 ⟨_, _, rfl, Box.ext ⟨b1⟩ e2, ⟨b2⟩, e1.trans e2, Nat.le_refl _, by omega⟩
theorem others1_iter (fb : Nat) (s : Sl) (xs : List UInt8) (b c : Nat) (hl : xs.length ≤ 35184372088832) : Iter Tryz.prog 250 [.pointer (some ⟨b, 0, none⟩), .pointer (some ⟨c, 0, none⟩)] xs.length
    (fun k A vs => ∃ t : Sl, vs = [I64 k, t.val] ∧ Bytes A t (others xs k)) (fun A => Box A b 98 (fieldV fb) ∧ Box A c 36 s.val ∧ Bytes A s xs ∧ IsField A fb) := by
  intro y J Jx H hpre hext hextx hY h0
  obtain ⟨hb, hc, hbs, hF⟩ := hpre _ _ h0
  refine CallsH.enter h250 Tryz.func250 rfl rfl rfl (by decide) fun u => go ?_
  refine RegS.call (roots_ok fb s xs H hF hbs hl) ?_
  rintro _ H1 ⟨all, rfl, mA, e1⟩
  have hc1 := hc.ext e1
  have hbs1 := hbs.ext e1
  refine go ?_
  refine Wp.loop (ι := Nat) (fun k => [(0, .func (.yield y) #[] #[]), (1, .pointer (some ⟨b, 0, none⟩)), (4, all.val), (13, s.val), (14, I64 xs.length), (15, I64 k)]) (fun k A => k ≤ xs.length ∧ J k A ∧ Mine A H.size all (roots gmul xs) ∧ H.size ≤ A.size) (fun k => xs.length - k) 0 ⟨rfl, rfl, rfl, rfl, rfl, rfl, trivial⟩ ⟨Nat.zero_le _, hext _ _ _ h0 e1, mA, e1.size⟩ ?_
  rintro k A ⟨hk, hJ, mA, zA⟩
  obtain ⟨hb, hc, hbs, hF⟩ := hpre _ _ hJ
  refine go ?_
  refine Wp.br (fun h => ?_) (fun h => ?_) <;> refine go ?_
  · refine RegS.buildSlice fun H2 o2 e2 z2 => ?_
    have m2 : Mine H2 A.size (Sl.fresh A.size 2) [xs.getD k 0, 1] := OwnR.mine (e := 5) o2
    refine go ?_
    have hr := rootsN_length gmul xs xs.length
    refine RegS.call (divP_ok fb all (Sl.fresh A.size 2) (roots gmul xs) [xs.getD k 0, 1] H2 (hF.ext e2) (mA.ext e2).bytes m2.bytes (by unfold roots; omega) (by simp)) ?_
    rintro _ H3 ⟨e3, h3⟩
    rw [if_neg (by rw [deg1_lin]; decide)] at h3
    obtain ⟨q, r, rfl, mq, mr, _⟩ := h3
    refine go ?_
    have hJ3 := hext _ _ _ hJ (e2.trans e3)
    refine RegS.yieldC (hY k H3 _ (by omega) hJ3 ⟨q, rfl, mq.bytes⟩) ?_
    rintro v H4 ⟨hA, ⟨rfl, hJ'⟩ | ⟨rfl, hJ'⟩⟩ <;> refine go ?_
    · refine roundQ_n (k + 1) ⟨rfl, rfl, rfl, rfl, rfl, rfl, trivial⟩ ⟨by omega, hJ', ((mA.ext e2).ext e3).above hA (Nat.le_refl _), ?_⟩ (by omega)
      have := hA.size; have := e2.size; have := e3.size; omega
    · exact ret0 (.inr hJ')
  · refine ret0n (.inl ?_)
    have : k = xs.length := by omega
    rw [← this]; exact hJ

/-- What Through hands back. -/
def ThrR (H : Heap) (xs ys : List UInt8) (v : Value) (H' : Heap) : Prop :=
  Ext H H' ∧ if xs.length = ys.length ∧ thrOk xs xs.length then ∃ s : Sl, v = .tuple #[s.val, .bool true] ∧ Mine H' H.size s (thrN xs ys xs.length)
  else v = .tuple #[Sl.nil.val, .bool false]
set_option maxHeartbeats 1000000 in
theorem through_ok (fb : Nat) (s r : Sl) (xs ys : List UInt8) (H : Heap) (hF : IsField H fb) (hs : Bytes H s xs) (hr : Bytes H r ys) (hl : xs.length ≤ 35184372088832) (hm : ys.length ≤ 35184372088832) : CallsH Tryz.prog 172 [fieldV fb, s.val, r.val] H (ThrR H xs ys) := by
  refine CallsH.enter h172 Tryz.func172 rfl rfl rfl (by decide) fun u => go ?_
  refine RegS.box (fun H1 e1 z1 b1 => ?_)
  refine go ?_
  refine RegS.box (fun H2 e2 z2 b2 => ?_)
  refine go ?_
  refine RegS.box (fun H3 e3 z3 b3 => ?_)
  refine go ?_
  refine RegS.alloc (fun H4 e4 z4 b4 => ?_)
  refine go ?_
  refine RegS.alloc (fun H5 e5 z5 b5 => ?_)
  have e05 : Ext H H5 := (((e1.trans e2).trans e3).trans e4).trans e5
  have c1 : Box H5 H.size 98 (fieldV fb) := Box.ext ⟨b1⟩ (((e2.trans e3).trans e4).trans e5)
  have c2 : Box H5 H1.size 36 s.val := Box.ext ⟨b2⟩ ((e3.trans e4).trans e5)
  have c3 : Box H5 H2.size 36 r.val := Box.ext ⟨b3⟩ (e4.trans e5)
  have c4 : Box H5 H3.size 36 Sl.nil.val := Box.ext ⟨b4⟩ e5
  have c5 : Box H5 H4.size 4 (.bool false) := ⟨b5⟩
  have hs5 := hs.ext e05
  have hr5 := hr.ext e05
  refine go ?_
  refine Wp.br (fun h => ?_) (fun h => ?_) <;> refine go ?_
  · refine RegS.store (v := Sl.nil.val) c4.wr ?_
    refine go ?_
    have d5 := c5.chg (hset_chg H5 ⟨H3.size, 0, none⟩ Sl.nil.val) (by simp; omega)
    have d4 : Box (hset H5 ⟨H3.size, 0, none⟩ Sl.nil.val) H3.size 36 Sl.nil.val := Box.set c4
    refine RegS.store (v := .bool false) d5.wr ?_
    refine go ?_
    have f5 := Box.set (u := .bool false) d5
    have f4 := d4.chg (hset_chg _ ⟨H4.size, 0, none⟩ (.bool false)) (by simp; omega)
    refine retc2 f4.cell f5.cell ⟨(e05.then (hset_chg _ _ _) (by intro b hb; simp at hb; omega)).then (hset_chg _ _ _) (by intro b hb; simp at hb; omega), ?_⟩
    rw [if_neg (by omega)]
  refine RegS.alloc (fun H6 e6 z6 b6 => ?_)
  refine go ?_
  have c1 := c1.ext e6
  have c2 := c2.ext e6
  have c3 := c3.ext e6
  have c4 := c4.ext e6
  have c5 := c5.ext e6
  have c6 : Box H6 H5.size 36 Sl.nil.val := ⟨b6⟩
  have c1c := c1.cell
  have c2c := c2.cell
  refine go ?_
  refine RegS.call (others_ok fb s H6) ?_
  rintro _ H7 ⟨ob, oc, rfl, cb, cc, e7, gb, gc⟩
  refine go ?_
  have hlen : xs.length = ys.length := by omega
  have x06 := e05.trans e6
  have x07 := x06.trans e7
  have n7 := e7.size
  refine Wp.rangeB (others1_iter fb s xs ob oc hl) (fun k vs => [(3, fieldV H.size), (4, fieldV H1.size), (5, fieldV H2.size), (6, fieldV H3.size), (7, fieldV H4.size), (8, fieldV H5.size), (9, vs.getD 0 undef), (10, vs.getD 1 undef)])
    (fun k A => Ext H A ∧ Box A H.size 98 (fieldV fb) ∧ Box A H1.size 36 s.val ∧ Box A H2.size 36 r.val ∧ Box A H3.size 36 Sl.nil.val ∧ Box A H4.size 4 (.bool false) ∧ (∃ t : Sl, Box A H5.size 36 t.val ∧ Mine A H6.size t (thrN xs ys k)) ∧ thrOk xs k ∧ Box A ob 98 (fieldV fb) ∧ Box A oc 36 s.val)
    (fun e A => Ext H A ∧ ¬ thrOk xs xs.length ∧ Box A H3.size 36 Sl.nil.val ∧ Box A H4.size 4 (.bool false) ∧ e = .ret) ?_ ?_ ?_ ?_ ?_ ?_ ?_ ?_ ?_ ?_
  · rintro k A ⟨i1, i2, i3, i4, i5, i6, i7, i8, i9, i10⟩
    exact ⟨i9, i10, hs.ext i1, hF.ext i1⟩
  · rintro k A A' ⟨i1, i2, i3, i4, i5, i6, ⟨t, i7, i7'⟩, i8, i9, i10⟩ kk
    exact ⟨kk.above i1 (by omega), i2.keep kk, i3.keep kk, i4.keep kk, i5.keep kk, i6.keep kk, ⟨t, i7.keep kk, i7'.keep kk⟩, i8, i9.keep kk, i10.keep kk⟩
  · rintro e A A' ⟨i1, i2, i3, i4, rfl⟩ kk
    exact ⟨kk.above i1 (by omega), i2, i3.keep kk, i4.keep kk, rfl⟩
  · rintro k A A' vs ⟨t, rfl, ht⟩ kk
    exact ⟨t, rfl, ht.keep kk⟩
  · rintro k A vs ⟨t, rfl, ht⟩
    rfl
  · exact ⟨x07, c1.ext e7, c2.ext e7, c3.ext e7, c4.ext e7, c5.ext e7, ⟨Sl.nil, c6.ext e7, (OwnR.mine (e := 5) (OwnR.nil _ _ _ _))⟩, (fun j hj => absurd hj (by omega)), cb, cc⟩
  · rintro u l k A vs hk _ ⟨t, rfl, ht⟩
    refine go ?_
    exact ⟨rfl, rfl, rfl, rfl, rfl, rfl, rfl, rfl, rfl, rfl, rfl, trivial⟩
  · rintro u l k A vs hk ⟨i1, i2, i3, i4, i5, i6, ⟨t, i7, i7'⟩, i8, i9, i10⟩ ⟨p, rfl, hp⟩
    have j2 := i2.cell
    have j3 := i3.cell
    have j4 := i4.cell
    have hsA := hs.ext i1
    have hrA := hr.ext i1
    have hol := others_length xs k
    show Wp _ _ _ [(3, fieldV H.size), (4, fieldV H1.size), (5, fieldV H2.size), (6, fieldV H3.size), (7, fieldV H4.size), (8, fieldV H5.size), (9, I64 k), (10, p.val)] _ _
    refine go ?_
    refine RegP.call (eval_ok fb p _ (xs.getD k 0) A (hF.ext i1) hp (by omega)) ?_
    rintro _ A1 ⟨rfl, x1⟩
    refine ⟨.inl x1, ?_⟩
    refine go ?_
    refine RegP.call (div_ok fb (ys.getD k 0) (hor (xs.getD k 0) (others xs k)) A1 (hF.ext (i1.trans x1))) ?_
    rintro _ _ ⟨rfl, rfl⟩
    refine ⟨.inl (Ext.refl _), ?_⟩
    refine go ?_
    have k2 := i2.ext x1
    have k5 := i5.ext x1
    have k6 := i6.ext x1
    have k7 := i7.ext x1
    refine Wp.br (fun h => ?_) (fun h => ?_) <;> refine go ?_
    · refine RegS.store (v := Sl.nil.val) k5.wr ?_
      refine go ?_
      have d5 := k6.chg (hset_chg A1 ⟨H3.size, 0, none⟩ Sl.nil.val) (by simp; omega)
      have d4 : Box (hset A1 ⟨H3.size, 0, none⟩ Sl.nil.val) H3.size 36 Sl.nil.val := Box.set k5
      refine RegS.store (v := .bool false) d5.wr ?_
      refine go ?_
      have f5 := Box.set (u := .bool false) d5
      have f4 := d4.chg (hset_chg _ ⟨H4.size, 0, none⟩ (.bool false)) (by simp; omega)
      have hc := (hset_chg A1 ⟨H3.size, 0, none⟩ Sl.nil.val).mono (S' := fun b => b = H3.size ∨ b = H4.size) (fun b _ hb => .inl hb) |>.trans ((hset_chg (hset A1 ⟨H3.size, 0, none⟩ Sl.nil.val) ⟨H4.size, 0, none⟩ (.bool false)).mono fun b _ hb => .inr hb)
      refine bodyQ_r ((x1.above _).trans (hc.above fun b hb => by omega)) ⟨(i1.trans x1).then hc fun b hb => by omega, fun hok => h (hok k hk), f4, f5, rfl⟩
    have hne : hor (xs.getD k 0) (others xs k) ≠ 0 := Classical.not_not.1 h
    have k2c := k2.cell
    have k7c := k7.cell
    refine go ?_
    refine RegP.buildSlice fun A2 o2 x2 z2 => ?_
    have m2 : Mine A2 A1.size (Sl.fresh A1.size 1) [gdiv (ys.getD k 0) (hor (xs.getD k 0) (others xs k))] := OwnR.mine (e := 5) o2
    refine go ?_
    refine RegP.call (mulP_ok fb p _ (others xs k) [gdiv (ys.getD k 0) (hor (xs.getD k 0) (others xs k))] A2 (hF.ext ((i1.trans x1).trans x2)) ((hp.ext x1).ext x2) m2.bytes (by omega) (by simp)) ?_
    rintro _ A3 ⟨t3, rfl, m3, x3⟩
    refine ⟨.inl x3, ?_⟩
    refine go ?_
    have ht3 := thrN_length xs ys k
    have ht4 := tl_le (conv gmul (others xs k) [gdiv (ys.getD k 0) (hor (xs.getD k 0) (others xs k))])
    rw [conv_length] at ht4
    simp only [List.length_cons, List.length_nil] at ht4
    have mt3 := ((i7'.ext x1).ext x2).ext x3
    refine RegP.call (add_ok t t3 (thrN xs ys k) _ A3 mt3.bytes m3.bytes (by omega) (by omega)) ?_
    rintro _ A4 ⟨t4, rfl, m4, x4⟩
    refine ⟨.inl x4, ?_⟩
    have x14 := ((x1.trans x2).trans x3).trans x4
    have k8 := ((k7.ext x2).ext x3).ext x4
    refine go ?_
    refine RegP.store k8.wr ?_ ?_
    · exact Proms.nil
    refine go ?_
    have hc := hset_chg A4 ⟨H5.size, 0, none⟩ t4.val
    have n4 : H6.size ≤ A4.size := by have := (i9.ext x14).lt; omega
    refine bodyQ_n ((x14.above _).trans (hc.above fun b hb => by simp at hb; omega)) ⟨(i1.trans x14).then hc fun b hb => by simp at hb; omega, (i2.ext x14).chg hc (by simp; omega), (i3.ext x14).chg hc (by simp; omega), (i4.ext x14).chg hc (by simp; omega), (i5.ext x14).chg hc (by simp; omega), (i6.ext x14).chg hc (by simp; omega), ⟨t4, Box.set k8, ?_⟩, ?_, (i9.ext x14).chg hc (by simp; omega), (i10.ext x14).chg hc (by simp; omega)⟩
    · have n3 : H6.size ≤ A3.size := by have := (i9.ext ((x1.trans x2).trans x3)).lt; omega
      exact (m4.low n3).chg hc fun b hb hb' => by have := ((m4.low n3).blk b hb).1; simp at hb'; omega
    · intro j hj
      by_cases e : j = k
      · subst e; exact hne
      · exact i8 j (by omega)
  · rintro A D hD ⟨i1, i2, i3, i4, i5, i6, ⟨t, i7, i7'⟩, i8, i9, i10⟩ hd
    have j7 := i7.cell
    refine go ?_
    refine RegS.store i5.wr ?_
    have d4 : Box (hset A ⟨H3.size, 0, none⟩ t.val) H3.size 36 t.val := Box.set i5
    have d5 := i6.chg (hset_chg A ⟨H3.size, 0, none⟩ t.val) (by simp; omega)
    refine go ?_
    refine RegS.store (v := .bool true) d5.wr ?_
    have f5 := Box.set (u := .bool true) d5
    have f4 := d4.chg (hset_chg _ ⟨H4.size, 0, none⟩ (.bool true)) (by simp; omega)
    have hc := (hset_chg A ⟨H3.size, 0, none⟩ t.val).mono (S' := fun b => b = H3.size ∨ b = H4.size) (fun b _ hb => .inl hb) |>.trans ((hset_chg (hset A ⟨H3.size, 0, none⟩ t.val) ⟨H4.size, 0, none⟩ (.bool true)).mono fun b _ hb => .inr hb)
    have hd' := (hc.get D (Array.getElem?_eq_some_iff.1 hd).1 (by omega)).trans hd
    have ts : Mine _ H6.size t (thrN xs ys xs.length) := i7'.chg hc fun b hb hb' => by have := (i7'.blk b hb).1; omega
    have kk := Keep.shut (B := H7.size) hD hd'
    refine go ?_
    refine retc2d hd' (f4.keep kk).cell (f5.keep kk).cell ⟨kk.above (i1.then hc fun b hb => by omega) (by omega), ?_⟩
    rw [if_pos ⟨hlen, i8⟩]
    exact ⟨t, rfl, (ts.keep kk).low (by omega)⟩
  · rintro e A D hD ⟨i1, i2, i3, i4, rfl⟩ hd
    refine go ?_
    have kk := Keep.shut (B := H7.size) hD hd
    refine retc2d hd (i3.keep kk).cell (i4.keep kk).cell ⟨kk.above i1 (by omega), ?_⟩
    rw [if_neg (fun h => i2 h.2)]
end Go.Proofs.YtgmemfcfjlndoaaGreat
