/-
  The walks of package word: what is read.
-/
import Derived.Test.YtaikdcnifijcoaaVWord
import Derived.Test.YtaikdcnifijcoaaVcEq
set_option linter.unusedVariables false
set_option linter.unusedSimpArgs false
namespace Go.Proofs.Ytaikdcnifijcoaa
open Go Go.Vc Go.Gf

/-- A reader, and what is left. -/
structure ReadAt (A : Heap) (base rb : Nat) (s : Sl) (l : List UInt8) (bad : Bool) : Prop where
  blk : Blk A rb 133 [s.val, .bool bad]
  row : Bytes A s l
  low : ∀ b, s.blk = some b → b < base
theorem ReadAt.ext {A B : Heap} {base rb : Nat} {s : Sl} {l : List UInt8} {bad : Bool} (h : ReadAt A base rb s l bad) (e : Ext A B) : ReadAt B base rb s l bad := ⟨h.blk.ext e, h.row.ext e, h.low⟩
theorem ReadAt.chg {S : Nat → Prop} {A B : Heap} {base rb : Nat} {s : Sl} {l : List UInt8} {bad : Bool} (h : ReadAt A base rb s l bad) (c : Chg S A B) (hr : ¬ S rb) (hs : ∀ b, b < base → ¬ S b) : ReadAt B base rb s l bad := ⟨h.blk.chg c hr, h.row.chgN c fun hp b hb => ⟨h.row.lt hp b hb, hs b (h.low b hb)⟩, h.low⟩
theorem ReadAt.keep {A B : Heap} {base rb : Nat} {s t : Sl} {l m : List UInt8} {bad : Bool} (h : ReadAt A base rb s l bad) (c : Chg (· = rb) A B) (ht : Bytes A t m) : Bytes B t m :=
  ht.chgN c (Bytes.notB ht h.blk (by intro v hv x; simp only [List.mem_cons, List.not_mem_nil, or_false] at hv; rcases hv with rfl | rfl <;> simp [B8, Sl.val]))
section
variable {H : Heap} {base rb : Nat} {s : Sl} {l : List UInt8} {bad : Bool}
theorem rnew_ok (s : Sl) (l : List UInt8) (H : Heap) (hs : Bytes H s l) (hl : l.length ≤ 140737488355328) : CallsH Try.prog 44 [s.val] H fun v H' => ∃ rb t, v = ptrD rb ∧ ReadAt H' H'.size rb t l false ∧ Ext H H' ∧ H.size ≤ rb := by
  refine CallsH.enter h44 Try.func44 rfl rfl rfl (by decide) fun u => run ?_
  refine RegS.call (clone_ok s l H hs hl) ?_
  rintro _ H1 ⟨c, rfl, oc, x1⟩
  have rc := oc.rowF (f := B8) (dd := 0)
  refine run ?_
  refine RegS.boxA fun H2 x2 z2 b2 => ?_
  refine run ?_
  exact ret1 ⟨H1.size, c, rfl, ⟨b2, rc.ext x2, fun b hb => by have := (oc.blk_ge hb).2; have := x2.size; omega⟩, x1.trans x2, x1.size⟩
theorem rtake_ok (n : Nat) (hr : ReadAt H base rb s l false) (hn : n ≤ l.length) : CallsH Try.prog 70 [ptrD rb, I64 n] H fun v H' => ∃ c t : Sl, v = c.val ∧ Bytes H' c (l.take n) ∧ ReadAt H' base rb t (l.drop n) false ∧ Chg (· = rb) H H' := by
  have hb := hr.blk
  have hs := hr.row
  have hlen := hs.len
  have hle := s.le
  refine CallsH.enter h70 Try.func70 rfl rfl rfl (by decide) fun u => run ?_
  have hh1 : 0 ≤ n ∧ n ≤ n ∧ n ≤ s.cap := by omega
  have hh2 : n ≤ s.len ∧ s.len ≤ s.cap ∧ s.cap ≤ s.cap := by omega
  refine RegS.cut 0 n n (.inl ⟨rfl, rfl⟩) (.inr ⟨_, _, rfl, rfl⟩) (.inr ⟨_, _, rfl, rfl⟩) hh1 ?_
  have hc1 := hs.cut hh1 (by omega)
  rw [List.drop_zero] at hc1
  refine run ?_
  refine RegS.cut n s.len s.cap (.inr ⟨_, _, rfl, rfl⟩) (.inl ⟨rfl, rfl, rfl⟩) (.inl ⟨rfl, rfl⟩) hh2 ?_
  have hc2 := hs.cut hh2 (by omega)
  have hlow : ∀ b, (s.cut n s.len s.cap).blk = some b → b < base := fun b hb => hr.low b (Sl.cut_blk hb)
  rw [hlen, List.take_length] at hc2
  rw [hlen] at hlow
  rw [hlen]
  generalize s.cut n l.length s.cap = t at hc2 hlow ⊢
  generalize s.cut 0 n n = c at hc1 ⊢
  refine run ?_
  refine RegS.store (v := t.val) (Blk.wr hb (j := 0) (by simp)) ?_
  have c2 := hset_chg H ⟨rb, 0, none⟩ t.val
  have b2 : Blk (hset H ⟨rb, 0, none⟩ t.val) rb 133 [t.val, .bool false] := Blk.set (j := 0) (v := t.val) hb
  refine run ?_
  exact ret1 ⟨c, t, rfl, hr.keep c2 hc1, ⟨b2, hr.keep c2 hc2, hlow⟩, c2⟩
/-- Nothing, or too little, is left. -/
theorem rtake_no (n : Nat) (hr : ReadAt H base rb s l bad) (hn : bad = true ∨ l.length < n) : CallsH Try.prog 70 [ptrD rb, I64 n] H fun v H' => v = Sl.nil.val ∧ ReadAt H' base rb s l true ∧ Chg (· = rb) H H' := by
  have hb := hr.blk
  have hs := hr.row
  have b2 : Blk (hset H ⟨rb, 1, none⟩ (.bool true)) rb 133 [s.val, .bool true] := Blk.set (j := 1) (v := .bool true) hb
  have c2 := hset_chg H ⟨rb, 1, none⟩ (.bool true)
  refine CallsH.enter h70 Try.func70 rfl rfl rfl (by decide) fun u => ?_
  cases bad with
  | true =>
    refine run ?_
    refine RegS.store (v := .bool true) (Blk.wr hb (j := 1) (by simp)) ?_
    refine run ?_
    exact ret1 ⟨rfl, ⟨b2, hr.keep c2 hs, hr.low⟩, c2⟩
  | false =>
    have hn : l.length < n := by simpa using hn
    refine run ?_
    refine RegS.store (v := .bool true) (Blk.wr hb (j := 1) (by simp)) ?_
    refine run ?_
    exact ret1 ⟨rfl, ⟨b2, hr.keep c2 hs, hr.low⟩, c2⟩
set_option maxHeartbeats 4000000 in
theorem rint_ok (n : Int) (rest : List UInt8) (hr : ReadAt H base rb s (intB n ++ rest) false) (hn : -2 ≤ n ∧ n ≤ 2147483645) : CallsH Try.prog 45 [ptrD rb] H fun v H' => ∃ t, v = IV n ∧ ReadAt H' base rb t rest false ∧ Chg (· = rb) H H' := by
  obtain ⟨m, hm⟩ : ∃ m : Nat, n = (m : Int) - 2 := ⟨(n + 2).toNat, by omega⟩
  have e4 := intB_four hm (by omega)
  have hm2 : m ≤ 2147483647 := by omega
  rw [e4] at hr
  refine CallsH.enter h45 Try.func45 rfl rfl rfl (by decide) fun u => run ?_
  refine RegS.call (rtake_ok 4 hr (by simp)) ?_
  rintro _ H1 ⟨c, t, rfl, rc, rt, c1⟩
  have rc : Bytes H1 c [UInt8.ofNat (m >>> 24), UInt8.ofNat (m >>> 16), UInt8.ofNat (m >>> 8), UInt8.ofNat m] := rc
  have rt : ReadAt H1 base rb t rest false := rt
  have hcl := rc.len
  have e0 : ([UInt8.ofNat (m >>> 24), UInt8.ofNat (m >>> 16), UInt8.ofNat (m >>> 8), UInt8.ofNat m].getD 0 0).toNat = m / 16777216 := by simp [Nat.shiftRight_eq_div_pow]; omega
  have e1 : ([UInt8.ofNat (m >>> 24), UInt8.ofNat (m >>> 16), UInt8.ofNat (m >>> 8), UInt8.ofNat m].getD 1 0).toNat = m / 65536 % 256 := by simp [Nat.shiftRight_eq_div_pow]
  have e2 : ([UInt8.ofNat (m >>> 24), UInt8.ofNat (m >>> 16), UInt8.ofNat (m >>> 8), UInt8.ofNat m].getD 2 0).toNat = m / 256 % 256 := by simp [Nat.shiftRight_eq_div_pow]
  have e3 : ([UInt8.ofNat (m >>> 24), UInt8.ofNat (m >>> 16), UInt8.ofNat (m >>> 8), UInt8.ofNat m].getD 3 0).toNat = m % 256 := by simp
  have hl4 : [UInt8.ofNat (m >>> 24), UInt8.ofNat (m >>> 16), UInt8.ofNat (m >>> 8), UInt8.ofNat m].length = 4 := rfl
  generalize [UInt8.ofNat (m >>> 24), UInt8.ofNat (m >>> 16), UInt8.ofNat (m >>> 8), UInt8.ofNat m] = l4 at rc e0 e1 e2 e3 hl4 hcl
  have hnil : c.ao.isNone = false := by
    cases h : c.ao with
    | none => have := (c.ok h).1; omega
    | some a => rfl
  refine run ?_
  rw [hnil]
  refine run ?_
  have h128 : ¬ ((128 : UInt8) ≤ l4.getD 0 0) := by rw [UInt8.le_iff_toNat_le, e0]; simp; omega
  refine Wp.br (fun h => absurd h h128) (fun _ => ?_)
  have hide : ∃ _x : Unit, (l4.getD 0 0).toNat = m / 16777216 ∧ (l4.getD 1 0).toNat = m / 65536 % 256 ∧ (l4.getD 2 0).toNat = m / 256 % 256 ∧ (l4.getD 3 0).toNat = m % 256 := ⟨(), e0, e1, e2, e3⟩
  refine Wp.skip ?_
  refine thenQ_n ?_
  refine Wp.seq ?_
  refine Wp.regD ?_
  iterate 4 refine RegP.r' ?_
  have s0 : (l4.getD 0 0).toNat <<< 24 ≤ 9223372036854775807 := by rw [e0, Nat.shiftLeft_eq]; omega
  have s1 : (l4.getD 1 0).toNat <<< 16 ≤ 9223372036854775807 := by rw [e1, Nat.shiftLeft_eq]; omega
  have s2 : (l4.getD 2 0).toNat <<< 8 ≤ 9223372036854775807 := by rw [e2, Nat.shiftLeft_eq]; omega
  have a1 : (l4.getD 0 0).toNat <<< 24 + (l4.getD 1 0).toNat <<< 16 ≤ 9223372036854775807 := by rw [e0, e1, Nat.shiftLeft_eq, Nat.shiftLeft_eq]; omega
  have a2 : (l4.getD 0 0).toNat <<< 24 + (l4.getD 1 0).toNat <<< 16 + (l4.getD 2 0).toNat <<< 8 ≤ 9223372036854775807 := by rw [e0, e1, e2, Nat.shiftLeft_eq, Nat.shiftLeft_eq, Nat.shiftLeft_eq]; omega
  have hfin : (l4.getD 0 0).toNat <<< 24 + (l4.getD 1 0).toNat <<< 16 + (l4.getD 2 0).toNat <<< 8 + (l4.getD 3 0).toNat = m := by rw [e0, e1, e2, e3, Nat.shiftLeft_eq, Nat.shiftLeft_eq, Nat.shiftLeft_eq]; omega
  have a3 : (l4.getD 0 0).toNat <<< 24 + (l4.getD 1 0).toNat <<< 16 + (l4.getD 2 0).toNat <<< 8 + (l4.getD 3 0).toNat ≤ 9223372036854775807 := by rw [hfin]; omega
  refine RegP.r' (h := Rd.shlN rfl rfl rfl (by omega) s0) ?_
  iterate 4 refine RegP.r' ?_
  refine RegP.r' (h := Rd.shlN rfl rfl rfl (by omega) s1) ?_
  refine RegP.r' (h := Rd.addN rfl rfl rfl a1) ?_
  iterate 4 refine RegP.r' ?_
  refine RegP.r' (h := Rd.shlN rfl rfl rfl (by omega) s2) ?_
  refine RegP.r' (h := Rd.addN rfl rfl rfl a2) ?_
  iterate 4 refine RegP.r' ?_
  refine RegP.r' (h := Rd.addN rfl rfl rfl a3) ?_
  rw [hfin]
  refine RegP.r' (h := Rd.sub rfl rfl rfl (by omega)) ?_
  refine run ?_
  exact ret1 ⟨t, by rw [hm], rt, c1⟩
/-- A number that is not there. -/
theorem rint_no (hr : ReadAt H base rb s l bad) (hn : bad = true ∨ l.length < 4) : CallsH Try.prog 45 [ptrD rb] H fun v H' => v = IV 0 ∧ ReadAt H' base rb s l true ∧ Chg (· = rb) H H' := by
  refine CallsH.enter h45 Try.func45 rfl rfl rfl (by decide) fun u => run ?_
  refine RegS.call (rtake_no 4 hr hn) ?_
  rintro _ H1 ⟨rfl, r1, c1⟩
  have b1 := r1.blk
  refine run ?_
  refine RegS.store (v := .bool true) (Blk.wr b1 (j := 1) (by simp)) ?_
  have b2 : Blk (hset H1 ⟨rb, 1, none⟩ (.bool true)) rb 133 [s.val, .bool true] := Blk.set (j := 1) (v := .bool true) b1
  have c2 := hset_chg H1 ⟨rb, 1, none⟩ (.bool true)
  refine run ?_
  exact ret1 ⟨rfl, ⟨b2, r1.keep c2 r1.row, r1.low⟩, Chg.trans (S := (· = rb)) c1 c2⟩
set_option maxHeartbeats 2000000 in
theorem rbytes_ok (d rest : List UInt8) (hr : ReadAt H base rb s (layB d ++ rest) false) (hd : d.length ≤ 65535) : CallsH Try.prog 47 [ptrD rb] H fun v H' => ∃ c t : Sl, v = c.val ∧ Bytes H' c d ∧ ReadAt H' base rb t rest false ∧ Chg (· = rb) H H' ∧ ∀ b, c.blk = some b → H.size ≤ b := by
  rw [layB, if_neg (by omega)] at hr
  refine CallsH.enter h47 Try.func47 rfl rfl rfl (by decide) fun u => run ?_
  refine RegS.call (rtake_ok 2 hr (by simp)) ?_
  rintro _ H1 ⟨c, t, rfl, rc, rt, c1⟩
  have rc : Bytes H1 c [UInt8.ofNat (d.length / 256), UInt8.ofNat (d.length % 256)] := rc
  have rt : ReadAt H1 base rb t (d ++ rest) false := rt
  have hcl := rc.len
  have hnil : c.ao.isNone = false := by
    cases h : c.ao with
    | none => have := (c.ok h).1; rw [hcl] at this; cases this
    | some a => rfl
  have e0 : ([UInt8.ofNat (d.length / 256), UInt8.ofNat (d.length % 256)].getD 0 0).toNat = d.length / 256 := by simp; omega
  have e1 : ([UInt8.ofNat (d.length / 256), UInt8.ofNat (d.length % 256)].getD 1 0).toNat = d.length % 256 := by simp
  have hl4 : [UInt8.ofNat (d.length / 256), UInt8.ofNat (d.length % 256)].length = 2 := rfl
  generalize [UInt8.ofNat (d.length / 256), UInt8.ofNat (d.length % 256)] = l4 at rc e0 e1 hl4 hcl
  refine run ?_
  rw [hnil]
  refine Wp.cond_f (by rfl) ?_
  refine Wp.skip ?_
  refine thenQ_n ?_
  refine Wp.seq ?_
  refine Wp.regD ?_
  iterate 5 refine RegP.r' ?_
  have s0 : (l4.getD 0 0).toNat <<< 8 ≤ 9223372036854775807 := by rw [e0, Nat.shiftLeft_eq]; omega
  have hfin : (l4.getD 0 0).toNat <<< 8 + (l4.getD 1 0).toNat = d.length := by rw [e0, e1, Nat.shiftLeft_eq]; omega
  have a1 : (l4.getD 0 0).toNat <<< 8 + (l4.getD 1 0).toNat ≤ 9223372036854775807 := by rw [hfin]; omega
  refine RegP.r' (h := Rd.shlN rfl rfl rfl (by omega) s0) ?_
  iterate 4 refine RegP.r' ?_
  refine RegP.r' (h := Rd.addN rfl rfl rfl a1) ?_
  rw [hfin]
  refine RegP.call (rtake_ok d.length rt (by simp)) ?_
  rintro _ H2 ⟨c2, t2, rfl, rc2, rt2, ch2⟩
  rw [List.take_left] at rc2
  rw [List.drop_left] at rt2
  refine ⟨.inr Proms.nil, ?_⟩
  refine RegP.call (clone_ok c2 d H2 rc2 (by omega)) ?_
  rintro _ H3 ⟨c3, rfl, oc, x3⟩
  refine ⟨.inl x3, ?_⟩
  refine RegP.call (clip_ok c3 d H2.size H3 (OwnR.mine oc)) ?_
  rintro _ _ ⟨rfl, rfl⟩
  refine ⟨.inl (Ext.refl _), ?_⟩
  have hc3 := oc.rowF (f := B8) (dd := 0)
  have hle := c3.le
  have hh : 0 ≤ c3.len ∧ c3.len ≤ c3.len ∧ c3.len ≤ c3.cap := by omega
  have hc := hc3.cut hh (by rw [hc3.len]; omega)
  rw [List.drop_zero, hc3.len, List.take_length, ← hc3.len] at hc
  have z1 := c1.size
  have z2 := ch2.size
  refine run ?_
  exact ret1 ⟨_, t2, rfl, hc, rt2.ext x3, (Chg.trans (S := (· = rb)) c1 ch2).trans (x3.chg _), fun b hb => by have := (oc.blk_ge (Sl.cut_blk hb)).1; omega⟩
/-- Bytes that are not there. -/
theorem rbytes_no (hr : ReadAt H base rb s l bad) (hn : bad = true ∨ l.length < 2) : CallsH Try.prog 47 [ptrD rb] H fun v H' => v = Sl.nil.val ∧ ReadAt H' base rb s l true ∧ Chg (· = rb) H H' := by
  refine CallsH.enter h47 Try.func47 rfl rfl rfl (by decide) fun u => run ?_
  refine RegS.call (rtake_no 2 hr hn) ?_
  rintro _ H1 ⟨rfl, r1, c1⟩
  refine run ?_
  exact ret1 ⟨rfl, r1, c1⟩
theorem rdone_ok (hr : ReadAt H base rb s l bad) : CallsH Try.prog 49 [ptrD rb] H fun v H' => v = .bool (!bad && dec (l.length = 0)) ∧ H = H' := by
  have hb := hr.blk
  have hs := hr.row
  refine CallsH.enter h49 Try.func49 rfl rfl rfl (by decide) fun u => ?_
  cases bad <;> refine run ?_
  · refine ret1 ⟨?_, rfl⟩
    rw [Bool.not_false, Bool.true_and]
    exact congrArg _ (dec_congr (by omega))
  · exact ret1 ⟨rfl, rfl⟩
end
end Go.Proofs.Ytaikdcnifijcoaa
