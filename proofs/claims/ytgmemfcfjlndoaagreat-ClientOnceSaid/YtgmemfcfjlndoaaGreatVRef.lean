/-
  The walks of the document's answers, layers 1 and 2.
-/
import Derived.Test.YtgmemfcfjlndoaaGreatVcMem
import Derived.Test.YtgmemfcfjlndoaaGreatVPlain
set_option linter.unusedVariables false
set_option linter.unusedSimpArgs false
namespace Go.Proofs.YtgmemfcfjlndoaaGreat
open Go Go.Vc Go.Gf

set_option maxHeartbeats 400000 in
theorem rmul_ok (a b : UInt8) (H : Heap) : CallsH Tryz.prog 125 [B8 a, B8 b] H fun v H' => v = B8 (gmul a b) ∧ H = H' := by
  have ha := a.toNat_lt
  have hb := b.toNat_lt
  refine CallsH.enter h125 Tryz.func125 rfl rfl rfl (by decide) fun u => go ?_
  refine Wp.loop (ι := Nat) (fun i => [(0, B8 a), (1, B8 b), (5, I64 (rm1 a.toNat b.toNat i)), (6, I64 i)]) (fun i A => i ≤ 8 ∧ H = A) (fun i => 8 - i) 0 ⟨rfl, rfl, rfl, rfl, trivial⟩ ⟨by omega, rfl⟩ ?_
  rintro i _ ⟨hi, rfl⟩
  have hp := rm1_lt (a := a.toNat) (b := b.toNat) ha i hi
  refine go ?_
  refine Wp.br (fun h => ?_) (fun h => ?_)
  · have hsr : b.toNat >>> i ≤ b.toNat := by rw [Nat.shiftRight_eq_div_pow]; exact Nat.div_le_self _ _
    have hsl := shl_lt ha (show i < 8 by omega)
    have h1 : b.toNat >>> i ≤ 9223372036854775807 ∧ 1 ≤ 9223372036854775807 := by omega
    have h2 : a.toNat <<< i ≤ 9223372036854775807 := by omega
    have h3 : rm1 a.toNat b.toNat i ≤ 9223372036854775807 ∧ a.toNat <<< i ≤ 9223372036854775807 := by omega
    refine go ?_
    refine Wp.br (fun h' => ?_) (fun h' => ?_) <;> refine go ?_
    · refine roundQ_n (i + 1) ⟨rfl, rfl, ?_, rfl, trivial⟩ ⟨by omega, rfl⟩ (by omega)
      rw [rm1, if_pos (Int.ofNat.inj h')]; rfl
    · refine roundQ_n (i + 1) ⟨rfl, rfl, ?_, rfl, trivial⟩ ⟨by omega, rfl⟩ (by omega)
      rw [rm1, if_neg (fun e => h' (congrArg Int.ofNat e))]; rfl
  · refine go ?_
    have : i = 8 := by omega
    subst this
    have hp8 := rm1_lt (a := a.toNat) (b := b.toNat) ha 8 (Nat.le_refl _)
    refine Wp.loop (ι := Nat) (fun k => [(5, I64 (rm2 (rm1 a.toNat b.toNat 8) k)), (7, .int .i64 ((14 : Int) - (k : Int)))]) (fun k A => k ≤ 7 ∧ H = A) (fun k => 7 - k) 0 ⟨rfl, rfl, trivial⟩ ⟨by omega, rfl⟩ ?_
    rintro k _ ⟨hk, rfl⟩
    have hq := rm2_lt hp8 k
    have e : (14 : Int) - (k : Int) = ((14 - k : Nat) : Int) := by omega
    rw [e]
    refine go ?_
    refine Wp.br (fun h' => ?_) (fun h' => ?_)
    · have hsr : rm2 (rm1 a.toNat b.toNat 8) k >>> (14 - k) ≤ rm2 (rm1 a.toNat b.toNat 8) k := by rw [Nat.shiftRight_eq_div_pow]; exact Nat.div_le_self _ _
      have h1 : rm2 (rm1 a.toNat b.toNat 8) k >>> (14 - k) ≤ 9223372036854775807 ∧ 1 ≤ 9223372036854775807 := by omega
      have hsl := shl283_lt (i := 14 - k - 8) (by omega)
      have h2 : 283 <<< (14 - k - 8) ≤ 9223372036854775807 := by omega
      have h3 : rm2 (rm1 a.toNat b.toNat 8) k ≤ 9223372036854775807 ∧ 283 <<< (14 - k - 8) ≤ 9223372036854775807 := by omega
      refine go ?_
      refine Wp.br (fun h'' => ?_) (fun h'' => ?_) <;> refine go ?_
      · refine roundQ_n (k + 1) ⟨?_, get_int rfl (by omega), trivial⟩ ⟨by omega, rfl⟩ (by omega)
        rw [rm2, if_pos (Int.ofNat.inj h'')]; rfl
      · refine roundQ_n (k + 1) ⟨?_, get_int rfl (by omega), trivial⟩ ⟨by omega, rfl⟩ (by omega)
        rw [rm2, if_neg (fun e => h'' (congrArg Int.ofNat e))]; rfl
    · refine go ?_
      have : k = 7 := by omega
      subst this
      refine ret1 ⟨?_, rfl⟩
      rw [← rmul_eq]; rfl

theorem rinv_ok (a : UInt8) (H : Heap) : CallsH Tryz.prog 193 [B8 a] H fun v H' => v = B8 (ginv a) ∧ H = H' := by
  refine CallsH.enter h193 Tryz.func193 rfl rfl rfl (by decide) fun u => go ?_
  refine Wp.loop (ι := Nat) (fun i => [(0, B8 a), (3, I64 i)]) (fun i A => 1 ≤ i ∧ i ≤ 256 ∧ (∀ j, 1 ≤ j → j < i → gmul a (UInt8.ofNat j) ≠ 1) ∧ H = A) (fun i => 256 - i) 1 ⟨rfl, rfl, trivial⟩ ⟨by omega, by omega, fun j h1 h2 => absurd h2 (by omega), rfl⟩ ?_
  rintro i _ ⟨hi1, hi, hno, rfl⟩
  refine go ?_
  refine Wp.br (fun h => ?_) (fun h => ?_) <;> refine go ?_
  · refine RegS.call (rmul_ok a (UInt8.ofNat i) H) ?_
    rintro _ _ ⟨rfl, rfl⟩
    refine go ?_
    refine Wp.br (fun h' => ?_) (fun h' => ?_) <;> refine go ?_
    · refine ret1 ⟨?_, rfl⟩
      have h' : gmul a (UInt8.ofNat i) = 1 := h'
      have ha : a ≠ 0 := by rintro rfl; rw [zero_gmul] at h'; exact absurd h' (by decide)
      rw [gmul_cancel ha (h'.trans (gmul_inv ha).symm)]
    · refine roundQ_n (i + 1) ⟨rfl, rfl, trivial⟩ ⟨by omega, by omega, fun j h1 h2 => ?_, rfl⟩ (by omega)
      by_cases e : j = i
      · subst e; exact h'
      · exact hno j h1 (by omega)
  · refine ret1 ⟨?_, rfl⟩
    have ha : a = 0 := by
      refine Classical.byContradiction fun ha => ?_
      have h1 := gmul_inv ha
      have h2 := ginv_ne ha
      have h3 := (ginv a).toNat_lt
      refine hno (ginv a).toNat ?_ (by omega) (by rw [ofNat_toNat]; exact h1)
      rcases Nat.eq_zero_or_pos (ginv a).toNat with h4 | h4
      · exact absurd (UInt8.toNat_inj.1 h4) h2
      · exact h4
    subst ha; rfl

theorem rtrim_ok (s : Sl) (l : List UInt8) (H : Heap) (hb : Bytes H s l) (hl : l.length ≤ 140737488355328) : CallsH Tryz.prog 196 [s.val] H (New H (tl l)) := by
  refine CallsH.enter h196 Tryz.func196 rfl rfl rfl (by decide) fun u => go ?_
  refine Wp.loop (ι := Nat) (fun n => [(0, s.val), (3, I64 n)]) (fun n A => n ≤ l.length ∧ degN l n = deg1 l ∧ H = A) (fun n => n) l.length ⟨rfl, rfl, trivial⟩ ⟨Nat.le_refl _, rfl, rfl⟩ ?_
  rintro n _ ⟨hn, hd, rfl⟩
  refine go ?_
  refine RegS.sp (fun h => ?_) (fun h => ?_)
  · refine go ?_
    refine Wp.br (fun h' => ?_) (fun h' => ?_) <;> refine go ?_
    · obtain ⟨m, rfl⟩ : ∃ m, n = m + 1 := ⟨n - 1, by omega⟩
      refine roundQ_n m ⟨rfl, rfl, trivial⟩ ⟨by omega, ?_, rfl⟩ (by omega)
      rw [← hd, degN, if_pos (show l.getD m 0 = 0 from h')]
    · have hn' : deg1 l = n := by
        obtain ⟨m, rfl⟩ : ∃ m, n = m + 1 := ⟨n - 1, by omega⟩
        rw [← hd, degN, if_neg (show ¬ l.getD m 0 = 0 from h')]
      refine RegS.buildSlice fun H1 o1 e1 z1 => ?_
      refine go ?_
      have hh : 0 ≤ n ∧ n ≤ s.cap ∧ s.cap ≤ s.cap := by have := s.le; have := hb.len; omega
      refine RegS.cut 0 n s.cap (.inl ⟨rfl, rfl⟩) (.inr ⟨_, _, rfl, rfl⟩) (.inl ⟨rfl, rfl⟩) hh ?_
      refine go ?_
      have hc := (hb.ext e1).cut hh hn
      refine RegS.append (l' := []) (f := B8) o1 hc (fun _ => rfl) ?_ ?_ ?_ ?_
      · omega
      · simp; omega
      · simp; omega
      intro s' H2 o2 c2 b2
      refine go ?_
      refine ret1 ⟨s', rfl, ?_, e1.then c2 fun b hb => (o1.blk_ge hb).1⟩
      have := OwnR.mine o2
      simpa [tl, hn'] using this
  · refine go ?_
    have hn0 : n = 0 := by omega
    subst hn0
    have hn' : deg1 l = 0 := by rw [← hd]; rfl
    refine RegS.buildSlice fun H1 o1 e1 z1 => ?_
    refine go ?_
    have hh : 0 ≤ 0 ∧ 0 ≤ s.cap ∧ s.cap ≤ s.cap := by omega
    refine RegS.cut 0 0 s.cap (.inl ⟨rfl, rfl⟩) (.inr ⟨_, _, rfl, rfl⟩) (.inl ⟨rfl, rfl⟩) hh ?_
    refine go ?_
    have hc := (hb.ext e1).cut hh hn
    refine RegS.append (l' := []) (f := B8) o1 hc (fun _ => rfl) ?_ ?_ ?_ ?_
    · omega
    · simp
    · simp
    intro s' H2 o2 c2 b2
    refine go ?_
    refine ret1 ⟨s', rfl, ?_, e1.then c2 fun b hb => (o1.blk_ge hb).1⟩
    have := OwnR.mine o2
    simpa [tl, hn'] using this

theorem reval_ok (s : Sl) (l : List UInt8) (x : UInt8) (H : Heap) (hs : Bytes H s l) (hl : l.length ≤ 9223372036854775806) : CallsH Tryz.prog 64 [s.val, B8 x] H fun v H' => v = B8 (hor x l) ∧ H = H' := by
  refine CallsH.enter h64 Tryz.func64 rfl rfl rfl (by decide) fun u => go ?_
  refine Wp.loop (ι := Nat) (fun k => [(0, s.val), (1, B8 x), (5, B8 (psum l x k)), (6, B8 (ppow x k)), (7, I64 k)]) (fun k A => k ≤ l.length ∧ H = A) (fun k => l.length - k) 0 ⟨rfl, rfl, rfl, rfl, rfl, trivial⟩ ⟨by omega, rfl⟩ ?_
  rintro k _ ⟨hk, rfl⟩
  refine go ?_
  refine Wp.br (fun h => ?_) (fun h => ?_) <;> refine go ?_
  · refine RegS.call (rmul_ok _ _ H) ?_
    rintro _ _ ⟨rfl, rfl⟩
    refine go ?_
    refine RegS.call (rmul_ok _ _ H) ?_
    rintro _ _ ⟨rfl, rfl⟩
    refine go ?_
    exact roundQ_n (k + 1) ⟨rfl, rfl, rfl, rfl, rfl, trivial⟩ ⟨by omega, rfl⟩ (by omega)
  · have : k = l.length := by omega
    subst this
    exact ret1 ⟨congrArg B8 (hor_psum x l), rfl⟩

theorem radd_ok (s r : Sl) (l m : List UInt8) (H : Heap) (hs : Bytes H s l) (hr : Bytes H r m) (hl : l.length ≤ 140737488355327) (hm : m.length ≤ 140737488355327) : CallsH Tryz.prog 194 [s.val, r.val] H (New H (tl (xadd l m))) := by
  refine CallsH.enter h194 Tryz.func194 rfl rfl rfl (by decide) fun u => go ?_
  refine Wp.loop (ι := Nat × Sl) (fun i => [(0, s.val), (1, r.val), (5, i.2.val), (6, I64 i.1)]) (fun i A => i.1 ≤ max l.length m.length ∧ OwnF B8 A H.size 5 i.2 (mk i.1 fun k => l.getD k 0 ^^^ m.getD k 0) ∧ Ext H A) (fun i => max l.length m.length - i.1) (0, Sl.nil) ⟨rfl, rfl, rfl, rfl, trivial⟩ ⟨by simp, OwnR.nil _ _ _ _, Ext.refl _⟩ ?_
  rintro ⟨k, t⟩ A ⟨hk, hM, eA⟩
  have hk : k ≤ max l.length m.length := hk
  have hM : OwnF B8 A H.size 5 t (mk k fun k => l.getD k 0 ^^^ m.getD k 0) := hM
  have hsA := hs.ext eA
  have hrA := hr.ext eA
  refine go ?_
  have fin : k = max l.length m.length → New H (xadd l m) t.val A := fun e => ⟨t, rfl, by rw [e] at hM; exact hM.mine, eA⟩
  have step : ∀ c : UInt8, c = l.getD k 0 ^^^ m.getD k 0 → mk k (fun k => l.getD k 0 ^^^ m.getD k 0) ++ [c] = mk (k + 1) (fun k => l.getD k 0 ^^^ m.getD k 0) := fun c e => by rw [e, mk_succ]
  by_cases h1 : k < l.length <;> by_cases h2 : k < m.length <;> refine go ?_
  · refine RegS.buildSlice fun H1 o1 e1 z1 => ?_
    have m1 : Mine H1 A.size (Sl.fresh A.size 1) [0 ^^^ l.getD k 0 ^^^ m.getD k 0] := OwnR.mine (e := 5) o1
    refine go ?_
    refine RegS.append (hM.ext e1) m1.bytes (fun _ => rfl) ?_ ?_ ?_ ?_
    · have := eA.size; omega
    · simp [mk_length]; omega
    · simp [mk_length]; omega
    intro s' H2 o2 c2 b2
    refine go ?_
    refine roundQ_n (k + 1, s') ⟨rfl, rfl, rfl, rfl, trivial⟩ ⟨by simp only; omega, ?_, (eA.trans e1).then c2 fun b hb => (hM.blk_ge hb).1⟩ (by simp only; omega)
    have := step (0 ^^^ l.getD k 0 ^^^ m.getD k 0) (by rw [UInt8.zero_xor])
    rw [this] at o2
    exact o2
  · refine RegS.buildSlice fun H1 o1 e1 z1 => ?_
    have m1 : Mine H1 A.size (Sl.fresh A.size 1) [0 ^^^ l.getD k 0] := OwnR.mine (e := 5) o1
    refine go ?_
    refine RegS.append (hM.ext e1) m1.bytes (fun _ => rfl) ?_ ?_ ?_ ?_
    · have := eA.size; omega
    · simp [mk_length]; omega
    · simp [mk_length]; omega
    intro s' H2 o2 c2 b2
    refine go ?_
    refine roundQ_n (k + 1, s') ⟨rfl, rfl, rfl, rfl, trivial⟩ ⟨by simp only; omega, ?_, (eA.trans e1).then c2 fun b hb => (hM.blk_ge hb).1⟩ (by simp only; omega)
    have := step (0 ^^^ l.getD k 0) (by rw [UInt8.zero_xor, getD_ge (l := m) (by omega), UInt8.xor_zero])
    rw [this] at o2
    exact o2
  · refine RegS.buildSlice fun H1 o1 e1 z1 => ?_
    have m1 : Mine H1 A.size (Sl.fresh A.size 1) [0 ^^^ m.getD k 0] := OwnR.mine (e := 5) o1
    refine go ?_
    refine RegS.append (hM.ext e1) m1.bytes (fun _ => rfl) ?_ ?_ ?_ ?_
    · have := eA.size; omega
    · simp [mk_length]; omega
    · simp [mk_length]; omega
    intro s' H2 o2 c2 b2
    refine go ?_
    refine roundQ_n (k + 1, s') ⟨rfl, rfl, rfl, rfl, trivial⟩ ⟨by simp only; omega, ?_, (eA.trans e1).then c2 fun b hb => (hM.blk_ge hb).1⟩ (by simp only; omega)
    have := step (0 ^^^ m.getD k 0) (by rw [getD_ge (l := l) (by omega)])
    rw [this] at o2
    exact o2
  · obtain ⟨t', ht, hT, _⟩ := fin (by omega)
    refine RegS.call (rtrim_ok t (mk k fun k => l.getD k 0 ^^^ m.getD k 0) A hM.mine.bytes (by rw [mk_length]; omega)) ?_
    rintro _ A1 ⟨t1, rfl, m1, x1⟩
    refine go ?_
    refine ret1 ⟨t1, rfl, ?_, eA.trans x1⟩
    have e : k = max l.length m.length := by omega
    subst e
    exact m1.low eA.size

theorem times_ok (s r : Sl) (l m : List UInt8) (H : Heap) (hs : Bytes H s l) (hr : Bytes H r m) (hl : l.length ≤ 70368744177664) (hm : m.length ≤ 70368744177664) : CallsH Tryz.prog 195 [s.val, r.val] H (New H (tl (conv gmul l m))) := by
  refine CallsH.enter h195 Tryz.func195 rfl rfl rfl (by decide) fun u => go ?_
  refine RegS.makeSlice (n := l.length + m.length) ?_ ?_ fun H1 o1 e1 z1 => ?_
  · omega
  · omega
  refine go ?_
  have hM0 : Mine H1 H.size (Sl.fresh H.size (l.length + m.length)) (convO gmul l m 0) := by
    have : (List.replicate (l.length + m.length) (Value.int .u8 0)) = (convO gmul l m 0).map B8 := by simp [convO, B8]
    rw [this] at o1
    exact OwnR.mine o1
  refine Wp.loop (ι := Nat) (fun k => [(0, s.val), (1, r.val), (5, (Sl.fresh H.size (l.length + m.length)).val), (6, I64 k)]) (fun k A => k ≤ l.length ∧ Mine A H.size (Sl.fresh H.size (l.length + m.length)) (convO gmul l m k) ∧ Ext H A) (fun k => l.length - k) 0 ⟨rfl, rfl, rfl, rfl, trivial⟩ ⟨Nat.zero_le _, hM0, e1⟩ ?_
  rintro k A ⟨hk, hM, eA⟩
  have hsA := hs.ext eA
  refine go ?_
  refine Wp.br (fun h => ?_) (fun h => ?_) <;> refine go ?_
  · refine Wp.loop (ι := Nat) (fun j => [(0, s.val), (1, r.val), (5, (Sl.fresh H.size (l.length + m.length)).val), (6, I64 k), (7, I64 j)])
      (fun j A' => j ≤ m.length ∧ Mine A' H.size (Sl.fresh H.size (l.length + m.length)) (convI gmul (convO gmul l m k) k (l.getD k 0) m j) ∧ Ext H A') (fun j => m.length - j) 0 ⟨rfl, rfl, rfl, rfl, rfl, trivial⟩ ⟨Nat.zero_le _, hM, eA⟩ ?_
    rintro j A' ⟨hj, hM', eA'⟩
    have hsA' := hs.ext eA'
    have hrA' := hr.ext eA'
    have hb' := hM'.bytes
    have hlen' : (convI gmul (convO gmul l m k) k (l.getD k 0) m j).length = l.length + m.length := by rw [convI_length, convO_length]
    refine go ?_
    refine Wp.br (fun h' => ?_) (fun h' => ?_) <;> refine go ?_
    · refine RegP.call (rmul_ok _ _ A') ?_
      rintro _ _ ⟨rfl, rfl⟩
      refine ⟨.inl (Ext.refl _), ?_⟩
      refine go ?_
      refine RegP.store (hM'.wr (j := k + j) (by omega)) ?_ ?_
      · exact Proms.nil
      refine go ?_
      obtain ⟨h1, h2⟩ := hM'.set (j := k + j) (by omega) ((convI gmul (convO gmul l m k) k (l.getD k 0) m j).getD (k + j) 0 ^^^ gmul (l.getD k 0) (m.getD j 0))
      refine roundQ_n (j + 1) ⟨rfl, rfl, rfl, rfl, rfl, trivial⟩ ⟨by omega, ?_, eA'.then h2 fun b hb => (hM'.blk b hb).1⟩ (by omega)
      rw [convI_succ]
      exact h1
    · refine roundQ_n (k + 1) ⟨rfl, rfl, rfl, rfl, trivial⟩ ⟨by omega, ?_, eA'⟩ (by omega)
      have : j = m.length := by omega
      subst this
      rw [convO_succ]
      exact hM'
  · have : k = l.length := by omega
    subst this
    refine RegS.call (rtrim_ok _ _ _ hM.bytes (by rw [convO_length]; omega)) ?_
    rintro _ A1 ⟨t', rfl, hM', x1⟩
    refine go ?_
    exact ret1 ⟨t', rfl, hM'.low eA.size, eA.trans x1⟩

theorem rroots_ok (s : Sl) (xs : List UInt8) (H : Heap) (hs : Bytes H s xs) (hl : xs.length ≤ 17592186044416) : CallsH Tryz.prog 192 [s.val] H (New H (roots gmul xs)) := by
  refine CallsH.enter h192 Tryz.func192 rfl rfl rfl (by decide) fun u => go ?_
  refine RegS.buildSlice fun H1 o1 e1 z1 => ?_
  have m1 : Mine H1 H.size (Sl.fresh H.size 1) [1] := OwnR.mine (e := 5) o1
  refine go ?_
  refine Wp.loop (ι := Nat × Sl) (fun i => [(0, s.val), (3, i.2.val), (4, I64 i.1)]) (fun i A => i.1 ≤ xs.length ∧ Mine A H.size i.2 (rootsN gmul xs i.1) ∧ Ext H A) (fun i => xs.length - i.1) (0, Sl.fresh H.size 1) ⟨rfl, rfl, rfl, trivial⟩ ⟨Nat.zero_le _, m1, e1⟩ ?_
  rintro ⟨k, t⟩ A ⟨hk, hM, eA⟩
  have hk : k ≤ xs.length := hk
  have hM : Mine A H.size t (rootsN gmul xs k) := hM
  have hsA := hs.ext eA
  refine go ?_
  refine Wp.br (fun h => ?_) (fun h => ?_)
  · have h : (k : Int) < (xs.length : Int) := h
    refine go ?_
    refine RegS.buildSlice fun H2 o2 e2 z2 => ?_
    have m2 : Mine H2 A.size (Sl.fresh A.size 2) [xs.getD k 0, 1] := OwnR.mine (e := 5) o2
    refine go ?_
    have hr := rootsN_length gmul xs k
    refine RegS.call (times_ok t (Sl.fresh A.size 2) (rootsN gmul xs k) [xs.getD k 0, 1] H2 (hM.ext e2).bytes m2.bytes (by omega) (by simp)) ?_
    rintro _ H3 ⟨t', rfl, hM', e3⟩
    refine go ?_
    refine roundQ_n (k + 1, t') ⟨rfl, rfl, rfl, trivial⟩ ⟨by simp only; omega, hM'.low ?_, (eA.trans e2).trans e3⟩ (by simp only; omega)
    have := eA.size; have := e2.size; omega
  · have h : ¬ (k : Int) < (xs.length : Int) := h
    refine go ?_
    have : k = xs.length := by omega
    subst this
    exact ret1 ⟨t, rfl, hM, eA⟩

theorem agrees_ok (q s r : Sl) (p xs ys : List UInt8) (H : Heap) (hq : Bytes H q p) (hs : Bytes H s xs) (hr : Bytes H r ys) (hp : p.length ≤ 140737488355328) (hl : xs.length ≤ 140737488355328) (hm : xs.length ≤ ys.length) : CallsH Tryz.prog 124 [q.val, s.val, r.val] H fun v H' => v = I64 (agN p xs ys xs.length) ∧ H = H' := by
  refine CallsH.enter h124 Tryz.func124 rfl rfl rfl (by decide) fun u => go ?_
  refine Wp.loop (ι := Nat) (fun i => [(0, q.val), (1, s.val), (2, r.val), (7, I64 (agN p xs ys i)), (8, I64 i)]) (fun i A => i ≤ xs.length ∧ H = A) (fun i => xs.length - i) 0 ⟨rfl, rfl, rfl, rfl, rfl, trivial⟩ ⟨by omega, rfl⟩ ?_
  rintro i _ ⟨hi, rfl⟩
  have hag := agN_le p xs ys i
  refine go ?_
  refine Wp.br (fun h => ?_) (fun h => ?_) <;> refine go ?_
  · refine RegP.call (reval_ok q p _ H hq (by omega)) ?_
    rintro _ _ ⟨rfl, rfl⟩
    refine ⟨.inl (Ext.refl _), ?_⟩
    refine go ?_
    refine Wp.br (fun h' => ?_) (fun h' => ?_) <;> refine go ?_
    · refine roundQ_n (i + 1) ⟨rfl, rfl, rfl, ?_, rfl, trivial⟩ ⟨by omega, rfl⟩ (by omega)
      rw [agN, if_pos h']; rfl
    · refine roundQ_n (i + 1) ⟨rfl, rfl, rfl, ?_, rfl, trivial⟩ ⟨by omega, rfl⟩ (by omega)
      rw [agN, if_neg h']; rfl
  · have : i = xs.length := by omega
    subst this
    exact ret1 ⟨rfl, rfl⟩

theorem rthrough_ok (s r : Sl) (xs ys : List UInt8) (H : Heap) (hs : Bytes H s xs) (hr : Bytes H r ys) (hl : xs.length ≤ 8796093022208) (hm : xs.length ≤ ys.length) : CallsH Tryz.prog 123 [s.val, r.val] H (New H (rthrN xs ys xs.length)) := by
  refine CallsH.enter h123 Tryz.func123 rfl rfl rfl (by decide) fun u => go ?_
  refine Wp.loop (ι := Nat × Sl) (fun i => [(0, s.val), (1, r.val), (5, i.2.val), (6, I64 i.1)]) (fun i A => i.1 ≤ xs.length ∧ Mine A H.size i.2 (rthrN xs ys i.1) ∧ Ext H A) (fun i => xs.length - i.1) (0, Sl.nil) ⟨rfl, rfl, rfl, rfl, trivial⟩ ⟨by simp, OwnR.mine (e := 5) (OwnR.nil _ _ _ _), Ext.refl _⟩ ?_
  rintro ⟨k, t⟩ A ⟨hk, hM, eA⟩
  have hk : k ≤ xs.length := hk
  have hM : Mine A H.size t (rthrN xs ys k) := hM
  have hsA := hs.ext eA
  have hrA := hr.ext eA
  have hlen := hs.len
  have hle := s.le
  have hthr := rthrN_length xs ys k hk
  refine go ?_
  refine Wp.br (fun h => ?_) (fun h => ?_)
  · have h : (k : Int) < (xs.length : Int) := h
    have hro := rothers_length (xs := xs) (k := k) (by omega)
    refine go ?_
    have hh1 : 0 ≤ k ∧ k ≤ s.cap ∧ s.cap ≤ s.cap := by omega
    have hh2 : k + 1 ≤ s.len ∧ s.len ≤ s.cap ∧ s.cap ≤ s.cap := by omega
    refine RegP.cut 0 k s.cap (.inl ⟨rfl, rfl⟩) (.inr ⟨_, _, rfl, rfl⟩) (.inl ⟨rfl, rfl⟩) hh1 ?_
    refine go ?_
    refine RegP.cut (k + 1) s.len s.cap (.inr ⟨_, _, rfl, rfl⟩) (.inl ⟨rfl, rfl, rfl⟩) (.inl ⟨rfl, rfl⟩) hh2 ?_
    refine go ?_
    refine RegP.buildSlice fun H1 o1 e1 z1 => ?_
    refine go ?_
    have hc1 := (hsA.ext e1).cut hh1 hk
    have hc2 := (hsA.ext e1).cut hh2 (by omega)
    refine RegP.append (l' := []) (f := B8) o1 hc1 (fun _ => rfl) ?_ ?_ ?_ ?_
    · omega
    · simp; omega
    · simp; omega
    intro s1 H2 o2 c2 b2
    have e2 : Ext A H2 := e1.then c2 fun b hb => (o1.blk_ge hb).1
    refine ⟨.inr ?_, ?_⟩
    · refine Proms.cons (promCut (.inr ⟨_, _, rfl, rfl⟩) (.inl ⟨rfl, rfl, rfl⟩) (.inl ⟨rfl, rfl⟩) hh2) ?_
      repeat (first | exact Proms.nil | refine Proms.cons prom ?_)
    refine go ?_
    have hc3 := (hsA.ext e2).cut hh2 (by omega)
    refine RegP.append (f := B8) o2 hc3 (fun _ => rfl) ?_ ?_ ?_ ?_
    · have := e2.size; omega
    · simp; omega
    · simp; omega
    intro s2 H3 o3 c3 b3
    have e3 : Ext A H3 := e2.then c3 fun b hb => (o2.blk_ge hb).1
    refine ⟨.inr ?_, ?_⟩
    · exact Proms.nil
    have mo : Mine H3 A.size s2 (xs.take k ++ xs.drop (k + 1)) := by
      have := OwnR.mine o3
      simpa [hlen] using this
    refine go ?_
    refine RegS.call (rroots_ok s2 _ H3 mo.bytes (by simp; omega)) ?_
    rintro _ H4 ⟨s3, rfl, m3, x4⟩
    have e4 := e3.trans x4
    have m3 : Mine H4 H3.size s3 (rothers xs k) := m3
    have hs4 := hs.ext (eA.trans e4)
    have hr4 := hr.ext (eA.trans e4)
    have hb3 := m3.bytes
    refine go ?_
    refine RegP.call (reval_ok s3 (rothers xs k) (xs.getD k 0) H4 hb3 (by omega)) ?_
    rintro _ _ ⟨rfl, rfl⟩
    refine ⟨.inl (Ext.refl _), ?_⟩
    refine go ?_
    refine RegP.call (rinv_ok _ H4) ?_
    rintro _ _ ⟨rfl, rfl⟩
    refine ⟨.inl (Ext.refl _), ?_⟩
    refine go ?_
    refine RegP.call (rmul_ok _ _ H4) ?_
    rintro _ _ ⟨rfl, rfl⟩
    refine ⟨.inl (Ext.refl _), ?_⟩
    refine go ?_
    refine RegS.buildSlice fun H5 o5 e5 z5 => ?_
    have m5 : Mine H5 H4.size (Sl.fresh H4.size 1) [gmul (ys.getD k 0) (ginv (hor (xs.getD k 0) (rothers xs k)))] := OwnR.mine (e := 5) o5
    refine go ?_
    refine RegS.call (times_ok s3 _ (rothers xs k) [gmul (ys.getD k 0) (ginv (hor (xs.getD k 0) (rothers xs k)))] H5 (m3.ext e5).bytes m5.bytes (by omega) (by simp)) ?_
    rintro _ H6 ⟨s6, rfl, m6, x6⟩
    refine go ?_
    have e6 := (e4.trans e5).trans x6
    have ht := tl_le (conv gmul (rothers xs k) [gmul (ys.getD k 0) (ginv (hor (xs.getD k 0) (rothers xs k)))])
    rw [conv_length] at ht
    simp only [List.length_cons, List.length_nil] at ht
    refine RegS.call (radd_ok t s6 (rthrN xs ys k) _ H6 (hM.ext e6).bytes m6.bytes (by omega) (by omega)) ?_
    rintro _ H7 ⟨s7, rfl, m7, x7⟩
    refine go ?_
    refine roundQ_n (k + 1, s7) ⟨rfl, rfl, rfl, rfl, trivial⟩ ⟨by simp only; omega, m7.low ?_, eA.trans (e6.trans x7)⟩ (by simp only; omega)
    have := eA.size; have := e6.size; omega
  · have h : ¬ (k : Int) < (xs.length : Int) := h
    refine go ?_
    have : k = xs.length := by omega
    subst this
    refine RegS.call (rtrim_ok t _ A hM.bytes (by omega)) ?_
    rintro _ A1 ⟨t1, rfl, m1, x1⟩
    refine go ?_
    refine ret1 ⟨t1, rfl, ?_, eA.trans x1⟩
    rw [tl_rthrN] at m1
    exact m1.low eA.size
end Go.Proofs.YtgmemfcfjlndoaaGreat
