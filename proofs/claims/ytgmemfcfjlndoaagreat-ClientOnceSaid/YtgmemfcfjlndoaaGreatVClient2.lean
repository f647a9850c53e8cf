/-
  The walks of package client, on: documents dealt; shares staged.
-/
import Derived.Test.YtgmemfcfjlndoaaGreatVClient
set_option linter.unusedVariables false
set_option linter.unusedSimpArgs false
namespace Go.Proofs.YtgmemfcfjlndoaaGreat
open Go Go.Vc Go.Gf

theorem isField_chg {S : Nat → Prop} {H H' : Heap} {b : Nat} (h : IsField H b) (c : Chg S H H') (hs : ¬ S b) : IsField H' b := ⟨fun k hk => c.cell (h.exp k hk) hs, fun a => c.cell (h.log a) hs⟩
theorem own_ok (N T K E R fb tb cb : Nat) (ses : Int) (dealt : Sl) (wanted : Bool) (size : Int) (came : Value) (m : MsgA) (ms : MsgS) (k : Int) (H : Heap) (hc : Blk H cb 104 (clientC N T K E R fb tb ses dealt wanted size came)) :
    CallsH Tryz.prog 53 [ptrV cb, .agg (msgC m ms).toArray, IV k] H fun v H' => v = .bool (dec (m.kind = k ∧ m.session ≠ 0 ∧ m.session = ses)) ∧ Ext H H' := by
  refine CallsH.enter h53 Tryz.func53 rfl rfl rfl (by decide) fun u => go ?_
  refine RegS.boxA fun H0 x0 z0 b0 => ?_
  have hc0 := hc.ext x0
  refine go ?_
  refine RegP.q' (h := Rd.neqPtr rfl rfl rfl rfl) ?_
  refine go ?_
  by_cases h1 : m.kind = k
  · rw [dec_pos h1]
    refine go ?_
    by_cases h2 : m.session ≠ ((0 : Nat) : Int)
    · rw [dec_pos h2]
      refine go ?_
      refine ret1 ⟨?_, x0⟩
      exact congrArg _ (dec_congr ⟨fun h => ⟨h1, h2, h⟩, fun h => h.2.2⟩)
    · rw [dec_neg h2]
      refine go ?_
      exact ret1 ⟨by rw [dec_neg fun h => h2 h.2.1], x0⟩
  · rw [dec_neg h1]
    refine go ?_
    exact ret1 ⟨by rw [dec_neg fun h => h1 h.1], x0⟩
/-- What Deal leaves behind. -/
inductive DealR (H : Heap) (N T K E R fb tb cb : Nat) (ses : Int) (left : Sl) (bytes data : List UInt8) (v : Value) (H' : Heap) : Prop
  | large (h : 256 < data.length) (hv : v = IV 8) (hc : Blk H' cb 104 (clientC N T K E R fb tb 0 Sl.nil false 0 (.map none))) (ht : Blk H' tb 154 [left.val, I64 0]) (hl : Bytes H' left bytes) (c : Chg (fun b => b = cb ∨ b = tb) H H')
  | short (h : data.length ≤ 256) (h2 : bytes.length < T * columns data.length K) (hv : v = IV 6) (hc : Blk H' cb 104 (clientC N T K E R fb tb 0 Sl.nil false 0 (.map none))) (ht : Blk H' tb 154 [left.val, I64 0]) (hl : Bytes H' left bytes) (c : Chg (fun b => b = cb ∨ b = tb) H H')
  | done (h : data.length ≤ 256) (h2 : T * columns data.length K ≤ bytes.length) (hv : v = IV 0) (sa : Sl) (ss : List Sl) (left' : Sl) (hc : Blk H' cb 104 (clientC N T K E R fb tb ses sa false 0 (.map none))) (ht : Blk H' tb 154 [left'.val, I64 (T * columns data.length K)])
      (hl : Bytes H' left' (bytes.drop (T * columns data.length K))) (hg : GMat H' H.size 36 sa ss (sharesL N (polysL N T K data (bytes.take (T * columns data.length K))))) (c : Chg (fun b => b = cb ∨ b = tb) H H')
set_option maxHeartbeats 8000000 in
theorem deal_ok (N T K E R fb tb cb : Nat) (ses0 ses : Int) (dealt0 : Sl) (wanted0 : Bool) (size0 : Int) (came0 : Value) (left s : Sl) (bytes data : List UInt8) (H : Heap) (hc : Blk H cb 104 (clientC N T K E R fb tb ses0 dealt0 wanted0 size0 came0)) (ht : Blk H tb 154 [left.val, I64 0]) (hF : IsField H fb)
    (hl : Bytes H left bytes) (hne : ∀ b, left.blk = some b → b < H.size ∧ b ≠ tb ∧ b ≠ cb) (hs : Bytes H s data) (hsn : 0 < s.len → ∀ b, s.blk = some b → b ≠ tb ∧ b ≠ cb) (hct : cb ≠ tb) (hFn : fb ≠ cb ∧ fb ≠ tb) (hb : bytes.length ≤ 65536) (hK : 1 ≤ K) (hT0 : 1 ≤ T) (hT : T ≤ 255) (hNK : N + K ≤ 255)
    (hdl : data.length ≤ 4611686018427387904) :
    CallsH Tryz.prog 47 [ptrV cb, IV ses, s.val] H (DealR H N T K E R fb tb cb ses left bytes data) := by
  refine CallsH.enter h47 Tryz.func47 rfl rfl rfl (by decide) fun u => go ?_
  refine RegS.q (h := Rd.eqlPtr rfl rfl rfl rfl) ?_
  refine go ?_
  refine RegS.call (forget_ok N T K E R fb tb cb ses0 dealt0 wanted0 size0 came0 H hc) ?_
  rintro _ H1 ⟨hc1, c1⟩
  have ht1 := ht.chg c1 (fun h => hct h.symm)
  have hl1 := hl.chg c1 fun b hb => ⟨(hne b hb).1, (hne b hb).2.2⟩
  have hs1 := hs.chgN c1 fun hp b hb => ⟨hs.lt hp b hb, (hsn hp b hb).2⟩
  have hF1 : IsField H1 fb := isField_chg hF c1 hFn.1
  have z1 := c1.size
  have lcb := hc.lt
  have ltb := ht.lt
  have cc1 : Chg (fun b => b = cb ∨ b = tb) H H1 := c1.mono fun b _ h => .inl h
  refine go ?_
  refine Wp.br (fun h => ?_) (fun h => ?_) <;> refine go ?_
  · exact ret1 (.large (by omega) rfl hc1 ht1 hl1 cc1)
  have hcl := columns_le (size := data.length) hK
  have hm : T * columns data.length K ≤ 255 * 256 := Nat.mul_le_mul hT (by omega)
  refine RegP.call (columns_ok data.length K H1 hK (by omega) (by omega)) ?_
  rintro _ _ ⟨rfl, rfl⟩
  refine ⟨.inl (Ext.refl _), ?_⟩
  refine go ?_
  refine RegP.call (need_ok N T K E R (columns data.length K) H1 (by omega)) ?_
  rintro _ H2 ⟨rfl, x2⟩
  refine ⟨.inl x2, ?_⟩
  have hc2 := hc1.ext x2
  have ht2 := ht1.ext x2
  have hl2 := hl1.ext x2
  have hs2 := hs1.ext x2
  have hF2 := hF1.ext x2
  have cc2 : Chg (fun b => b = cb ∨ b = tb) H H2 := cc1.trans (x2.chg _)
  have z2 := x2.size
  by_cases hn : T * columns data.length K ≤ bytes.length
  case neg =>
    refine go ?_
    refine RegP.call (take_no tb left 0 (T * columns data.length K) bytes H2 ht2 hl2 (by omega)) ?_
    rintro _ _ ⟨rfl, rfl⟩
    refine ⟨.inl (Ext.refl _), ?_⟩
    refine go ?_
    exact ret1 (.short (by omega) (by omega) rfl hc2 ht2 hl2 cc2)
  refine go ?_
  refine RegP.call (take_ok tb left 0 (T * columns data.length K) bytes H2 ht2 hl2 (fun b hb => ⟨by have := (hne b hb).1; omega, (hne b hb).2.1⟩) hn (by omega) (by omega)) ?_
  rintro _ H3 ⟨rb, left', rfl, orb, ht3, hl3, hcb3, c3⟩
  rw [Nat.zero_add] at ht3
  refine ⟨.inr Proms.nil, ?_⟩
  have hc3 := hc2.chg c3 (fun h => hct h)
  have hs3 := hs2.chgN c3 fun hp b hb => ⟨hs2.lt hp b hb, (hsn hp b hb).1⟩
  have hF3 : IsField H3 fb := isField_chg hF2 c3 hFn.2
  have z3 := c3.size
  have cc3 : Chg (fun b => b = cb ∨ b = tb) H H3 := cc2.trans (c3.mono fun b _ h => .inr h)
  refine go ?_
  refine RegS.store (v := IV ses) (Blk.wr hc3 (j := 7) (by simp)) ?_
  have hc4 : Blk (hset H3 ⟨cb, 7, none⟩ (IV ses)) cb 104 (clientC N T K E R fb tb ses Sl.nil false 0 (.map none)) := Blk.set (j := 7) (v := IV ses) hc3
  have k4 := hset_chg H3 ⟨cb, 7, none⟩ (IV ses)
  have ht4 := ht3.chg k4 (by simp; exact fun h => hct h.symm)
  have hs4 := hs3.chgN k4 fun hp b hb => ⟨hs3.lt hp b hb, (hsn hp b hb).2⟩
  have hrb4 : OwnF B8 (hset H3 ⟨cb, 7, none⟩ (IV ses)) H2.size 5 rb (bytes.take (T * columns data.length K)) := orb.chg k4 fun b hb hb' => by have := (orb.blk_ge hb).1; simp at hb'; omega
  have hl4 := hl3.chg k4 fun b hb => ⟨by have := (hne b (hcb3 b hb)).1; omega, fun h => by simp at h; exact (hne b (hcb3 b hb)).2.2 h⟩
  have hF4 : IsField (hset H3 ⟨cb, 7, none⟩ (IV ses)) fb := isField_chg hF3 k4 (by simp; exact hFn.1)
  have cc4 : Chg (fun b => b = cb ∨ b = tb) H (hset H3 ⟨cb, 7, none⟩ (IV ses)) := cc3.trans (k4.mono fun b _ h => .inl (by simpa using h))
  have z4 := k4.size
  generalize hset H3 ⟨cb, 7, none⟩ (IV ses) = H4 at hc4 ht4 hs4 hrb4 hl4 hF4 cc4 z4
  refine go ?_
  refine RegP.call (share_ok fb N T K E R s rb data (bytes.take (T * columns data.length K)) H4 hF4 hs4 hrb4.rowF (by omega) hK hT0 hT hNK (by rw [List.length_take]; omega)) ?_
  rintro _ H5 ⟨sa, ss, rfl, G5, x5⟩
  refine ⟨.inl x5, ?_⟩
  have hc5 := hc4.ext x5
  refine go ?_
  refine RegP.store (v := sa.val) (Blk.wr hc5 (j := 8) (by simp)) ?_ ?_
  · exact proms
  have k6 := hset_chg H5 ⟨cb, 8, none⟩ sa.val
  have z5 := x5.size
  refine go ?_
  refine ret1 (.done (by omega) hn rfl sa ss left' (Blk.set (j := 8) (v := sa.val) hc5) ((ht4.ext x5).chg k6 (by simp; exact fun h => hct h.symm)) ?_ ?_ ?_)
  · exact (hl4.ext x5).chg k6 fun b hb => ⟨by have := (hne b (hcb3 b hb)).1; omega, fun h => by simp at h; exact (hne b (hcb3 b hb)).2.2 h⟩
  · exact (G5.low (by omega)).chg k6 fun b hb _ h => by simp at h; omega
  · exact (cc4.trans (x5.chg _)).trans (k6.mono fun b _ h => .inl (by simpa using h))
end Go.Proofs.YtgmemfcfjlndoaaGreat
