/-
  What many walks use: answers that lie in blocks, rows cloned, maps' rows, params.
-/
import Derived.Test.YtaikdcnifijcoaaGreatQ15
import Derived.Test.YtaikdcnifijcoaaGreatQ16
import Derived.Test.YtaikdcnifijcoaaGreatQ08
import Derived.Test.YtaikdcnifijcoaaGreatQ14
import Derived.Test.YtaikdcnifijcoaaGreatQ10
set_option linter.unusedVariables false
set_option linter.unusedSimpArgs false
namespace Go.Proofs.YtaikdcnifijcoaaGreat
open Go Go.Vc Go.Gf
/-- A reader, and what is left. -/
structure ReadAt (A : Heap) (base rb : Nat) (s : Sl) (l : List UInt8) (bad : Bool) : Prop where
  blk : Blk A rb 241 [s.val, .bool bad]
  row : Bytes A s l
  low : ∀ b, s.blk = some b → b < base
theorem ReadAt.ext {A B : Heap} {base rb : Nat} {s : Sl} {l : List UInt8} {bad : Bool} (h : ReadAt A base rb s l bad) (e : Ext A B) : ReadAt B base rb s l bad := ⟨h.blk.ext e, h.row.ext e, h.low⟩
theorem ReadAt.chg {S : Nat → Prop} {A B : Heap} {base rb : Nat} {s : Sl} {l : List UInt8} {bad : Bool} (h : ReadAt A base rb s l bad) (c : Chg S A B) (hr : ¬ S rb) (hs : ∀ b, b < base → ¬ S b) : ReadAt B base rb s l bad := ⟨h.blk.chg c hr, h.row.chgN c fun hp b hb => ⟨h.row.lt hp b hb, hs b (h.low b hb)⟩, h.low⟩
theorem ReadAt.keep {A B : Heap} {base rb : Nat} {s t : Sl} {l m : List UInt8} {bad : Bool} (h : ReadAt A base rb s l bad) (c : Chg (· = rb) A B) (ht : Bytes A t m) : Bytes B t m :=
  ht.chgN c (Bytes.notB ht h.blk (by intro v hv x; simp only [List.mem_cons, List.not_mem_nil, or_false] at hv; rcases hv with rfl | rfl <;> simp [B8, Sl.val]))
section
variable {H : Heap} {base rb : Nat} {s : Sl} {l : List UInt8} {bad : Bool}
theorem rnew_ok (s : Sl) (l : List UInt8) (H : Heap) (hs : Bytes H s l) (hl : l.length ≤ 140737488355328) : CallsH Tryz.prog 142 [s.val] H fun v H' => ∃ rb t, v = ptrD rb ∧ ReadAt H' H'.size rb t l false ∧ Ext H H' ∧ H.size ≤ rb := by
  refine CallsH.enter h142 Tryz.func142 rfl rfl rfl (by decide) fun u => run ?_
  refine RegS.call (clone_ok s l H hs hl) ?_
  rintro _ H1 ⟨c, rfl, oc, x1⟩
  have rc := oc.rowF (f := B8) (dd := 0)
  refine run ?_
  refine RegS.boxA fun H2 x2 z2 b2 => ?_
  refine run ?_
  exact ret1 ⟨H1.size, c, rfl, ⟨b2, rc.ext x2, fun b hb => by have := (oc.blk_ge hb).2; have := x2.size; omega⟩, x1.trans x2, x1.size⟩
theorem rtake_ok (n : Nat) (hr : ReadAt H base rb s l false) (hn : n ≤ l.length) : CallsH Tryz.prog 208 [ptrD rb, I64 n] H fun v H' => ∃ c t : Sl, v = c.val ∧ Bytes H' c (l.take n) ∧ ReadAt H' base rb t (l.drop n) false ∧ Chg (· = rb) H H' := by
  have hb := hr.blk
  have hs := hr.row
  have hlen := hs.len
  have hle := s.le
  refine CallsH.enter h208 Tryz.func208 rfl rfl rfl (by decide) fun u => run ?_
  have hh1 : 0 ≤ n ∧ n ≤ n ∧ n ≤ s.cap := by omega
  have hh2 : n ≤ s.len ∧ s.len ≤ s.cap ∧ s.cap ≤ s.cap := by omega
  refine RegS.cut 0 n n (.inl ⟨rfl, rfl⟩) (.inr ⟨_, _, rfl, rfl⟩) (.inr ⟨_, _, rfl, rfl⟩) hh1 ?_
  have hc1 := hs.cut hh1 (by omega)
  rw [List.drop_zero] at hc1
  refine run ?_
  refine RegS.cut n s.len s.cap (.inr ⟨_, _, rfl, rfl⟩) (.inl ⟨rfl, rfl, rfl⟩) (.inl ⟨rfl, rfl⟩) hh2 ?_
  have hc2 := hs.cut hh2 (by omega)
  have hlow : ∀ b, (s.cut n s.len s.cap).blk = some b → b < base := fun b hb => hr.low b (Sl.cut_blk hb)
  rw [hlen, List.take_length] at hc2
  rw [hlen] at hlow
  rw [hlen]
  generalize s.cut n l.length s.cap = t at hc2 hlow ⊢
  generalize s.cut 0 n n = c at hc1 ⊢
  refine run ?_
  refine RegS.store (v := t.val) (Blk.wr hb (j := 0) (by simp)) ?_
  have c2 := hset_chg H ⟨rb, 0, none⟩ t.val
  have b2 : Blk (hset H ⟨rb, 0, none⟩ t.val) rb 241 [t.val, .bool false] := Blk.set (j := 0) (v := t.val) hb
  refine run ?_
  exact ret1 ⟨c, t, rfl, hr.keep c2 hc1, ⟨b2, hr.keep c2 hc2, hlow⟩, c2⟩
set_option maxHeartbeats 4000000 in
theorem rint_ok (n : Int) (rest : List UInt8) (hr : ReadAt H base rb s (intB n ++ rest) false) (hn : -2 ≤ n ∧ n ≤ 2147483645) : CallsH Tryz.prog 143 [ptrD rb] H fun v H' => ∃ t, v = IV n ∧ ReadAt H' base rb t rest false ∧ Chg (· = rb) H H' := by
  obtain ⟨m, hm⟩ : ∃ m : Nat, n = (m : Int) - 2 := ⟨(n + 2).toNat, by omega⟩
  have e4 := intB_four hm (by omega)
  have hm2 : m ≤ 2147483647 := by omega
  rw [e4] at hr
  refine CallsH.enter h143 Tryz.func143 rfl rfl rfl (by decide) fun u => run ?_
  refine RegS.call (rtake_ok 4 hr (by simp)) ?_
  rintro _ H1 ⟨c, t, rfl, rc, rt, c1⟩
  have rc : Bytes H1 c [UInt8.ofNat (m >>> 24), UInt8.ofNat (m >>> 16), UInt8.ofNat (m >>> 8), UInt8.ofNat m] := rc
  have rt : ReadAt H1 base rb t rest false := rt
  have hcl := rc.len
  have e0 : ([UInt8.ofNat (m >>> 24), UInt8.ofNat (m >>> 16), UInt8.ofNat (m >>> 8), UInt8.ofNat m].getD 0 0).toNat = m / 16777216 := by simp [Nat.shiftRight_eq_div_pow]; omega
  have e1 : ([UInt8.ofNat (m >>> 24), UInt8.ofNat (m >>> 16), UInt8.ofNat (m >>> 8), UInt8.ofNat m].getD 1 0).toNat = m / 65536 % 256 := by simp [Nat.shiftRight_eq_div_pow]
  have e2 : ([UInt8.ofNat (m >>> 24), UInt8.ofNat (m >>> 16), UInt8.ofNat (m >>> 8), UInt8.ofNat m].getD 2 0).toNat = m / 256 % 256 := by simp [Nat.shiftRight_eq_div_pow]
  have e3 : ([UInt8.ofNat (m >>> 24), UInt8.ofNat (m >>> 16), UInt8.ofNat (m >>> 8), UInt8.ofNat m].getD 3 0).toNat = m % 256 := by simp
  have hl4 : [UInt8.ofNat (m >>> 24), UInt8.ofNat (m >>> 16), UInt8.ofNat (m >>> 8), UInt8.ofNat m].length = 4 := rfl
  generalize [UInt8.ofNat (m >>> 24), UInt8.ofNat (m >>> 16), UInt8.ofNat (m >>> 8), UInt8.ofNat m] = l4 at rc e0 e1 e2 e3 hl4 hcl
  have hnil : c.ao.isNone = false := by
    cases h : c.ao with
    | none => have := (c.ok h).1; omega
    | some a => rfl
  refine run ?_
  rw [hnil]
  refine run ?_
  have h128 : ¬ ((128 : UInt8) ≤ l4.getD 0 0) := by rw [UInt8.le_iff_toNat_le, e0]; simp; omega
  refine Wp.br (fun h => absurd h h128) (fun _ => ?_)
  have hide : ∃ _x : Unit, (l4.getD 0 0).toNat = m / 16777216 ∧ (l4.getD 1 0).toNat = m / 65536 % 256 ∧ (l4.getD 2 0).toNat = m / 256 % 256 ∧ (l4.getD 3 0).toNat = m % 256 := ⟨(), e0, e1, e2, e3⟩
  refine Wp.skip ?_
  refine thenQ_n ?_
  refine Wp.seq ?_
  refine Wp.regD ?_
  iterate 4 refine RegP.r' ?_
  have s0 : (l4.getD 0 0).toNat <<< 24 ≤ 9223372036854775807 := by rw [e0, Nat.shiftLeft_eq]; omega
  have s1 : (l4.getD 1 0).toNat <<< 16 ≤ 9223372036854775807 := by rw [e1, Nat.shiftLeft_eq]; omega
  have s2 : (l4.getD 2 0).toNat <<< 8 ≤ 9223372036854775807 := by rw [e2, Nat.shiftLeft_eq]; omega
  have a1 : (l4.getD 0 0).toNat <<< 24 + (l4.getD 1 0).toNat <<< 16 ≤ 9223372036854775807 := by rw [e0, e1, Nat.shiftLeft_eq, Nat.shiftLeft_eq]; omega
  have a2 : (l4.getD 0 0).toNat <<< 24 + (l4.getD 1 0).toNat <<< 16 + (l4.getD 2 0).toNat <<< 8 ≤ 9223372036854775807 := by rw [e0, e1, e2, Nat.shiftLeft_eq, Nat.shiftLeft_eq, Nat.shiftLeft_eq]; omega
  have hfin : (l4.getD 0 0).toNat <<< 24 + (l4.getD 1 0).toNat <<< 16 + (l4.getD 2 0).toNat <<< 8 + (l4.getD 3 0).toNat = m := by rw [e0, e1, e2, e3, Nat.shiftLeft_eq, Nat.shiftLeft_eq, Nat.shiftLeft_eq]; omega
  have a3 : (l4.getD 0 0).toNat <<< 24 + (l4.getD 1 0).toNat <<< 16 + (l4.getD 2 0).toNat <<< 8 + (l4.getD 3 0).toNat ≤ 9223372036854775807 := by rw [hfin]; omega
  refine RegP.r' (h := Rd.shlN rfl rfl rfl (by omega) s0) ?_
  iterate 4 refine RegP.r' ?_
  refine RegP.r' (h := Rd.shlN rfl rfl rfl (by omega) s1) ?_
  refine RegP.r' (h := Rd.addN rfl rfl rfl a1) ?_
  iterate 4 refine RegP.r' ?_
  refine RegP.r' (h := Rd.shlN rfl rfl rfl (by omega) s2) ?_
  refine RegP.r' (h := Rd.addN rfl rfl rfl a2) ?_
  iterate 4 refine RegP.r' ?_
  refine RegP.r' (h := Rd.addN rfl rfl rfl a3) ?_
  rw [hfin]
  refine RegP.r' (h := Rd.sub rfl rfl rfl (by omega)) ?_
  refine run ?_
  exact ret1 ⟨t, by rw [hm], rt, c1⟩
set_option maxHeartbeats 2000000 in
theorem rbytes_ok (d rest : List UInt8) (hr : ReadAt H base rb s (layB d ++ rest) false) (hd : d.length ≤ 65535) : CallsH Tryz.prog 145 [ptrD rb] H fun v H' => ∃ c t : Sl, v = c.val ∧ Bytes H' c d ∧ ReadAt H' base rb t rest false ∧ Chg (· = rb) H H' ∧ ∀ b, c.blk = some b → H.size ≤ b := by
  rw [layB, if_neg (by omega)] at hr
  refine CallsH.enter h145 Tryz.func145 rfl rfl rfl (by decide) fun u => run ?_
  refine RegS.call (rtake_ok 2 hr (by simp)) ?_
  rintro _ H1 ⟨c, t, rfl, rc, rt, c1⟩
  have rc : Bytes H1 c [UInt8.ofNat (d.length / 256), UInt8.ofNat (d.length % 256)] := rc
  have rt : ReadAt H1 base rb t (d ++ rest) false := rt
  have hcl := rc.len
  have hnil : c.ao.isNone = false := by
    cases h : c.ao with
    | none => have := (c.ok h).1; rw [hcl] at this; cases this
    | some a => rfl
  have e0 : ([UInt8.ofNat (d.length / 256), UInt8.ofNat (d.length % 256)].getD 0 0).toNat = d.length / 256 := by simp; omega
  have e1 : ([UInt8.ofNat (d.length / 256), UInt8.ofNat (d.length % 256)].getD 1 0).toNat = d.length % 256 := by simp
  have hl4 : [UInt8.ofNat (d.length / 256), UInt8.ofNat (d.length % 256)].length = 2 := rfl
  generalize [UInt8.ofNat (d.length / 256), UInt8.ofNat (d.length % 256)] = l4 at rc e0 e1 hl4 hcl
  refine run ?_
  rw [hnil]
  refine Wp.cond_f (by rfl) ?_
  refine Wp.skip ?_
  refine thenQ_n ?_
  refine Wp.seq ?_
  refine Wp.regD ?_
  iterate 5 refine RegP.r' ?_
  have s0 : (l4.getD 0 0).toNat <<< 8 ≤ 9223372036854775807 := by rw [e0, Nat.shiftLeft_eq]; omega
  have hfin : (l4.getD 0 0).toNat <<< 8 + (l4.getD 1 0).toNat = d.length := by rw [e0, e1, Nat.shiftLeft_eq]; omega
  have a1 : (l4.getD 0 0).toNat <<< 8 + (l4.getD 1 0).toNat ≤ 9223372036854775807 := by rw [hfin]; omega
  refine RegP.r' (h := Rd.shlN rfl rfl rfl (by omega) s0) ?_
  iterate 4 refine RegP.r' ?_
  refine RegP.r' (h := Rd.addN rfl rfl rfl a1) ?_
  rw [hfin]
  refine RegP.call (rtake_ok d.length rt (by simp)) ?_
  rintro _ H2 ⟨c2, t2, rfl, rc2, rt2, ch2⟩
  rw [List.take_left] at rc2
  rw [List.drop_left] at rt2
  refine ⟨.inr Proms.nil, ?_⟩
  refine RegP.call (clone_ok c2 d H2 rc2 (by omega)) ?_
  rintro _ H3 ⟨c3, rfl, oc, x3⟩
  refine ⟨.inl x3, ?_⟩
  refine RegP.call (clip_ok c3 d H2.size H3 (OwnR.mine oc)) ?_
  rintro _ _ ⟨rfl, rfl⟩
  refine ⟨.inl (Ext.refl _), ?_⟩
  have hc3 := oc.rowF (f := B8) (dd := 0)
  have hle := c3.le
  have hh : 0 ≤ c3.len ∧ c3.len ≤ c3.len ∧ c3.len ≤ c3.cap := by omega
  have hc := hc3.cut hh (by rw [hc3.len]; omega)
  rw [List.drop_zero, hc3.len, List.take_length, ← hc3.len] at hc
  have z1 := c1.size
  have z2 := ch2.size
  refine run ?_
  exact ret1 ⟨_, t2, rfl, hc, rt2.ext x3, (Chg.trans (S := (· = rb)) c1 ch2).trans (x3.chg _), fun b hb => by have := (oc.blk_ge (Sl.cut_blk hb)).1; omega⟩
theorem rdone_ok (hr : ReadAt H base rb s l bad) : CallsH Tryz.prog 147 [ptrD rb] H fun v H' => v = .bool (!bad && dec (l.length = 0)) ∧ H = H' := by
  have hb := hr.blk
  have hs := hr.row
  refine CallsH.enter h147 Tryz.func147 rfl rfl rfl (by decide) fun u => ?_
  cases bad <;> refine run ?_
  · refine ret1 ⟨?_, rfl⟩
    rw [Bool.not_false, Bool.true_and]
    exact congrArg _ (dec_congr (by omega))
  · exact ret1 ⟨rfl, rfl⟩
end
end Go.Proofs.YtaikdcnifijcoaaGreat
set_option linter.unusedVariables false
set_option linter.unusedSimpArgs false
namespace Go.Proofs.YtaikdcnifijcoaaGreat
open Go Go.Vc Go.Gf
theorem count_ok {H : Heap} {base rb : Nat} {s : Sl} (n most : Nat) (rest : List UInt8) (hr : ReadAt H base rb s (intB (n : Int) ++ rest) false) (hn : n ≤ 2147483645) (hm : n ≤ most) : CallsH Tryz.prog 144 [.agg #[ptrD rb, I64 most]] H fun v H' => ∃ t, v = I64 n ∧ ReadAt H' base rb t rest false ∧ Chg (· = rb) H H' := by
  have hlt := hr.blk.lt
  refine CallsH.enter h144 Tryz.func144 rfl rfl rfl (by decide) fun u => go ?_
  refine RegS.boxA fun H1 x1 z1 b1 => ?_
  refine run ?_
  refine RegS.call (rint_ok (n : Int) rest (hr.ext x1) (by omega)) ?_
  rintro _ H2 ⟨t, rfl, r2, c2⟩
  have b2 := b1.chg c2 (by omega)
  refine run ?_
  rw [show max n 0 = n by omega]
  refine run ?_
  exact ret1 ⟨t, rfl, r2, (x1.chg _).trans c2⟩
theorem bookB_seq (k : BookA) : bookB k = intB k.session ++ (intB k.decided ++ (intB k.epoch ++ (intB (k.dir.length : Int) ++ (headsB k.dir ++ (intB (k.up.length : Int) ++ (putB (k.up.map flagI) ++ (intB (k.commit.length : Int) ++ putB k.commit))))))) := by
  simp [bookB, putB, List.append_assoc]
theorem getD_get {α : Type} {l : List α} (d : α) {i : Nat} (hi : i < l.length) : l.getD i d = l[i] := by
  rw [List.getD_eq_getElem?_getD, List.getElem?_eq_getElem hi]; rfl
theorem headsB_drop {l : List HdT} {i : Nat} (hi : i < l.length) : headsB (l.drop i) = layB (l.getD i ([], 0)).1 ++ (intB (l.getD i ([], 0)).2 ++ headsB (l.drop (i + 1))) := by
  rw [List.drop_eq_getElem_cons hi, getD_get ([], 0) hi]
  simp only [headsB, putB, List.flatMap_cons, List.flatMap_nil, List.append_nil, List.append_assoc]
theorem putB_drop {l : List Int} {i : Nat} (hi : i < l.length) : putB (l.drop i) = intB (l.getD i 0) ++ putB (l.drop (i + 1)) := by
  rw [List.drop_eq_getElem_cons hi, getD_get 0 hi]
  simp only [putB, List.flatMap_cons]
theorem bookFit_good {n : Nat} {k : BookA} (h : BookFit n k) (hn : n ≤ 255) : bookBad k = false ∧ BookSm k := by
  have d8 := h.dir
  have hup := h.up
  have hcm := h.commit
  have one : ∀ z : Int, -2 ≤ z ∧ z ≤ 2147483645 → decide (z < -2 ∨ 2147483645 < z) = false := fun z hz => decide_eq_false (by omega)
  refine ⟨?_, by omega, fun j hj => ?_, by omega, by omega⟩
  · have b1 : badI [k.session, k.decided, k.epoch, (k.dir.length : Int)] = false := by
      have := h.session; have := h.decided; have := h.epoch
      simp only [badI, List.any_cons, List.any_nil, one k.session (by omega), one k.decided (by omega), one k.epoch (by omega), one (k.dir.length : Int) (by omega), Bool.or_false]
    have b2 : badH k.dir = false := by
      refine List.any_eq_false.2 fun x hx => ?_
      have := h.each x hx
      simp only [badL, badI, List.any_cons, List.any_nil, one x.2 (by omega), decide_eq_false (show ¬ 65535 < x.1.length by omega), Bool.or_false]; simp
    have b3 : badI [(k.up.length : Int)] = false := by simp only [badI, List.any_cons, List.any_nil, one (k.up.length : Int) (by omega), Bool.or_false]
    have b4 : badI (k.up.map flagI) = false := by
      refine List.any_eq_false.2 fun x hx => ?_
      obtain ⟨b, _, rfl⟩ := List.mem_map.1 hx
      rw [one _ (by unfold flagI; split <;> omega)]; simp
    have b5 : badI [(k.commit.length : Int)] = false := by simp only [badI, List.any_cons, List.any_nil, one (k.commit.length : Int) (by omega), Bool.or_false]
    have b6 : badI k.commit = false := by
      refine List.any_eq_false.2 fun x hx => ?_
      have := h.com x hx
      rw [one x (by omega)]; simp
    rw [bookBad, b1, b2, b3, b4, b5, b6]; rfl
  · have := h.each (k.dir.getD j ([], 0)) (by rw [List.getD_eq_getElem?_getD, List.getElem?_eq_getElem hj]; exact List.getElem_mem _)
    omega
theorem bookB_len {n : Nat} {k : BookA} (h : BookFit n k) (hn : n ≤ 255) : (bookB k).length ≤ 3000 := by
  have d8 := h.dir
  have hup := h.up
  have hcm := h.commit
  have w1 := headsB_le k.dir
  have w2 : ∀ i, i ≤ k.dir.length → hdW (k.dir.take i) ≤ 22 * i := by
    intro i
    induction i with
    | zero => intro _; simp [hdW]
    | succ i ih =>
      intro hi
      have h1 := ih (by omega)
      rw [take_snoc' ([], 0) (show i < k.dir.length by omega)]
      have := h.each (k.dir.getD i ([], 0)) (by rw [List.getD_eq_getElem?_getD, List.getElem?_eq_getElem (show i < k.dir.length by omega)]; exact List.getElem_mem _)
      unfold hdW at *
      rw [List.map_append, List.sum_append]
      simp only [List.map_cons, List.map_nil, List.sum_cons, List.sum_nil]
      omega
  have w3 := w2 k.dir.length (Nat.le_refl _)
  rw [List.take_length] at w3
  have w4 := putB_le (k.up.map flagI)
  have w5 := putB_le k.commit
  have i1 := intB_le k.session
  have i2 := intB_le k.decided
  have i3 := intB_le k.epoch
  have i4 := intB_le (k.dir.length : Int)
  have i5 := intB_le (k.up.length : Int)
  have i6 := intB_le (k.commit.length : Int)
  rw [List.length_map] at w4
  rw [bookB_seq]
  simp only [List.length_append]
  omega
theorem sEqual_ok (s t : Sl) (l m : List UInt8) (H : Heap) (hs : Bytes H s l) (ht : Bytes H t m) (hl : l.length ≤ 140737488355328) : CallsH Tryz.prog 148 [s.val, t.val] H fun v H' => v = .bool (dec (l = m)) ∧ H = H' := by
  have l1 := hs.len
  have l2 := ht.len
  refine CallsH.enter h148 Tryz.func148 rfl rfl rfl (by decide) fun u => run ?_
  refine Wp.br (fun h => ?_) (fun h => ?_) <;> refine run ?_
  · refine ret1 ⟨?_, rfl⟩
    rw [dec_neg (show ¬ l = m from fun e => h (by rw [e]))]
  have hlm : l.length = m.length := by
    have h : ¬ ((l.length : Int) ≠ (m.length : Int)) := h
    omega
  refine Wp.loop (ι := Nat) (fun i => [(0, s.val), (1, t.val), (12, I64 l.length), (13, I64 i)])
    (fun i A => A = H ∧ i ≤ l.length ∧ l.take i = m.take i) (fun i => l.length - i) 0 subs ⟨rfl, Nat.zero_le _, rfl⟩ ?_
  rintro i A ⟨rfl, hi, he⟩
  refine run ?_
  refine Wp.br (fun hlt => ?_) (fun hlt => ?_) <;> refine run ?_
  · have hlt : (i : Int) < (l.length : Int) := hlt
    refine Wp.br (fun h => ?_) (fun h => ?_) <;> refine run ?_
    · refine ret1 ⟨?_, rfl⟩
      rw [dec_neg (show ¬ l = m from fun e => h (by rw [e]))]
    · refine roundQ_n (i + 1) subs ⟨rfl, by omega, ?_⟩ (by omega)
      rw [take_snoc' 0 (show i < l.length by omega), take_snoc' 0 (show i < m.length by omega), he, Classical.not_not.1 h]
  · have hlt : ¬ (i : Int) < (l.length : Int) := hlt
    refine ret1 ⟨?_, rfl⟩
    have e1 := List.take_of_length_le (l := l) (i := i) (by omega)
    have e2 := List.take_of_length_le (l := m) (i := i) (by omega)
    rw [e1, e2] at he
    rw [dec_pos he]
end Go.Proofs.YtaikdcnifijcoaaGreat
set_option linter.unusedVariables false
set_option linter.unusedSimpArgs false
namespace Go.Vc
theorem RegP.boxA {C : Cx} {ops : Array Oper} {L : Env} {ds : List Nat} {H : Heap} {K : Env → Heap → Prop} {o : Oper} {B : Array Nat} {p : Plan} {pend : List Rec} {i t d : Nat} {keep : List Nat} {x : Operand} {cs : List Value}
    (k : ∀ H', Ext H H' → H'.size = H.size + 1 → Blk H' H.size t cs → RegP C ops B p (pfilter keep pend) ((d, .pointer (some ⟨H.size, 0, none⟩)) :: L) ds H' K)
    (hi : ops[i]? = some o := by rfl) (ho : o.op = .box t x := by rfl) (hx : L.ev x = some (.agg cs.toArray) := by rfl) (hds : o.dst = some d := by rfl) (hg : gd ops o L = some true := by rfl) (hd : Nat.blt d C.N = true := by rfl) : RegP C ops B (.e i keep p .nil) pend L ds H K :=
  RegP.ef (Ef.box ho hx (by rw [hds]; exact ⟨.inl (Ext.push _ _), k _ (Ext.push _ _) (by simp) ⟨by rw [Array.getElem?_push, if_pos rfl]; rfl⟩⟩)) hi hg (by rw [hds]; exact hd)
theorem run_loadBlk {P : Program} [Tbl P] {w : World} {t b e sz bt : Nat} {d : TypeDesc} {z : Value} {cs : List Value} (ht : ty P t = some ⟨d, sz, bt, z⟩) (hd : isAggD d = true) (hn : Nat.beq sz cs.length = true) (hb : Blk w.heap b e cs) : (loadVar t ⟨b, 0, none⟩).run P w = .ok (.agg cs.toArray) w := by
  have hag := ty.agg ht w
  rw [hd] at hag
  have hsz := Nat.eq_of_beq_eq_true hn
  subst hsz
  have hl := run_loadCellsFrom (P := P) (w := w) (a := ⟨b, 0, none⟩) cs 0 #[] fun j hj => ⟨cs[j], List.getElem?_eq_getElem hj, by
    rw [Nat.zero_add, add_plain]
    show hcell w.heap _ = _
    rw [blk_cell hb.at_]
    simp⟩
  simp only [loadVar, Sem.run_bind, hag, Result.andThen, if_true, ty.sizeOf ht, loadCells, hl, Sem.run_pure]
  simp
theorem res_cellA {P : Program} [Tbl P] {fn : Func} {N : Nat} {L : Env} {H : Heap} {t₁ t₂ e₁ e b sz bt : Nat} {d : TypeDesc} {z v₂ : Value} {cs : List Value} (h : fn.results = #[.cell t₁ e₁, .tmp t₂]) (h1 : L.get t₁ = some (.pointer (some ⟨b, 0, none⟩))) (h2 : L.get t₂ = some v₂) (hb : Blk H b e cs)
    (y1 : ty P e₁ = some ⟨d, sz, bt, z⟩) (hd : isAggD d = true) (hn : Nat.beq sz cs.length = true) : Res P fn N L H (.tuple #[.agg cs.toArray, v₂]) := fun a ds w hw k => by
  subst hw
  have e1 := k.get' h1
  have e2 := k.get' h2
  have l1 := run_loadBlk (P := P) y1 hd hn hb
  simp [results, h, e1, e2, asAddr, Sem.run_bind, Sem.run, l1, Result.andThen]
theorem retcA {C : Cx} {L : Env} {H : Heap} {fn : Func} {R : Value → Heap → Prop} [Tbl C.P] {t₁ t₂ e₁ e b sz bt : Nat} {d : TypeDesc} {z v₂ : Value} {cs : List Value} (hb : Blk H b e cs) (hR : R (.tuple #[.agg cs.toArray, v₂]) H) (h : fn.results = #[.cell t₁ e₁, .tmp t₂] := by rfl) (h1 : L.get t₁ = some (.pointer (some ⟨b, 0, none⟩)) := by rfl) (h2 : L.get t₂ = some v₂ := by rfl)
    (y1 : ty C.P e₁ = some ⟨d, sz, bt, z⟩ := by rfl) (hd : isAggD d = true := by rfl) (hn : Nat.beq sz cs.length = true := by rfl) : retQ C fn R .ret L [] H := ret_plain (res_cellA h h1 h2 hb y1 hd hn) hR
end Go.Vc
namespace Go.Proofs.YtaikdcnifijcoaaGreat
open Go Go.Vc Go.Gf
theorem cloneI_ok (s : Sl) (l : List Int) (H : Heap) (hb : RowF IV 0 H s l) (hl : l.length ≤ 2000000) : CallsH Tryz.prog 114 [s.val] H fun v H' => ∃ s' : Sl, v = s'.val ∧ RowF IV 0 H' s' l ∧ Ext H H' ∧ ∀ b, s'.blk = some b → H.size ≤ b := by
  refine CallsH.enter h114 Tryz.func114 rfl rfl rfl (by decide) fun u => go ?_
  refine Wp.brB (fun h => ?_) (fun h => ?_) <;> refine go ?_
  · have h0 := s.ok (by simpa using h)
    have hl0 : l = [] := List.eq_nil_of_length_eq_zero (by have := hb.len; omega)
    subst hl0
    exact ret1 ⟨_, rfl, RowF.nil _, Ext.refl _, fun b h => by simp [Sl.blk, Sl.nil] at h⟩
  · refine RegS.buildSlice fun H1 o1 e1 z1 => ?_
    have o1 : OwnF IV H1 H.size 3 (Sl.fresh H.size 0) [] := o1
    refine go ?_
    refine RegS.append (f := IV) o1 (hb.ext e1) (fun _ => rfl) (by omega) ?_ ?_ ?_
    · simp only [List.length_nil]; omega
    · simp only [List.length_nil]; omega
    intro s' H2 o2 c2 b2
    rw [List.nil_append] at o2
    refine go ?_
    exact ret1 ⟨_, rfl, OwnR.rowF o2, e1.then c2 fun b hb => (o1.blk_ge hb).1, fun b hb => (o2.blk_ge hb).1⟩
theorem cloneH_ok (s : Sl) (l : List HdT) (H : Heap) (hb : HRow H s l) (hl : l.length ≤ 2000000) : CallsH Tryz.prog 113 [s.val] H fun v H' => ∃ s' : Sl, v = s'.val ∧ HRow H' s' l ∧ Ext H H' ∧ ∀ b, s'.blk = some b → H.size ≤ b := by
  refine CallsH.enter h113 Tryz.func113 rfl rfl rfl (by decide) fun u => go ?_
  refine Wp.brB (fun h => ?_) (fun h => ?_) <;> refine go ?_
  · have h0 := s.ok (by simpa using h)
    have hl0 : l = [] := List.eq_nil_of_length_eq_zero (by have := hb.len; omega)
    subst hl0
    exact ret1 ⟨_, rfl, HRow.nil _, Ext.refl _, fun b h => by simp [Sl.blk, Sl.nil] at h⟩
  · refine RegS.buildNone 79 2 fun H1 o1 e1 z1 => ?_
    have hb1 := hb.ext e1
    have hlen := hb.len
    refine go ?_
    refine RegS.appendN o1 (r := s) (ys := l.flatMap hdV) (by rw [hdV_flat, hlen]) hb1.get (hdV_one l) (by omega) ?_ ?_ ?_
    · show (0 + s.len) * _ ≤ _; omega
    · show 0 + s.len ≤ _; omega
    intro s' H2 o2 c2 b2
    rw [List.nil_append] at o2
    refine go ?_
    exact ret1 ⟨_, rfl, OwnR.hrow o2, e1.then c2 fun b hb => (o1.blk_ge hb).1, fun b hb => (o2.blk_ge hb).1⟩
theorem isField_chg {S : Nat → Prop} {H H' : Heap} {b : Nat} (h : IsField H b) (c : Chg S H H') (hs : ¬ S b) : IsField H' b := ⟨fun k hk => c.cell (h.exp k hk) hs, fun a => c.cell (h.log a) hs⟩
/-- A map's rows. -/
abbrev SV := List (Int × Sl)
def sget : SV → Int → Option Sl
  | [], _ => none
  | p :: r, k => if p.1 = k then some p.2 else sget r k
def kvs (l : SV) : KV := l.map fun p => (p.1, p.2.val)
theorem mget_kvs : ∀ (l : SV) (k : Int), mget (kvs l) k = (sget l k).map Sl.val
  | [], _ => rfl
  | p :: r, k => by
    simp only [kvs, List.map_cons, mget, sget]
    split
    · rfl
    · exact mget_kvs r k
def sput : SV → Int → Sl → SV
  | [], k, v => [(k, v)]
  | p :: r, k, v => if p.1 = k then (k, v) :: r else p :: sput r k v
theorem mput_kvs : ∀ (l : SV) (k : Int) (s : Sl), mput (kvs l) k s.val = kvs (sput l k s)
  | [], _, _ => rfl
  | p :: r, k, s => by
    have ih := mput_kvs r k s
    simp only [kvs, List.map_cons, mput, sput] at ih ⊢
    split
    · rfl
    · rw [List.map_cons, ih]
theorem kvs_keys (l : SV) : (kvs l).map (·.1) = l.map (·.1) := by simp [kvs, List.map_map, Function.comp_def]
abbrev CV := List (Int × List UInt8)
def cget : CV → Int → Option (List UInt8)
  | [], _ => none
  | p :: r, k => if p.1 = k then some p.2 else cget r k
theorem pair_at {P : Sl → List UInt8 → Prop} : ∀ (l : SV) (c : CV), l.map (·.1) = c.map (·.1) → (∀ i, i < l.length → P (l.getD i (0, Sl.nil)).2 (c.getD i (0, [])).2) → ∀ q, (sget l q = none ∧ cget c q = none) ∨ ∃ s d, sget l q = some s ∧ cget c q = some d ∧ P s d
  | [], [], _, _, q => .inl ⟨rfl, rfl⟩
  | [], b :: c, h, _, _ => by simp at h
  | a :: l, [], h, _, _ => by simp at h
  | a :: l, b :: c, h, hP, q => by
    simp only [List.map_cons, List.cons.injEq] at h
    have ih := pair_at l c h.2 (fun i hi => by have := hP (i + 1) (by simpa using hi); simpa using this) q
    have h0 := hP 0 (by simp)
    simp only [List.getD_cons_zero] at h0
    simp only [sget, cget, ← h.1]
    by_cases e : a.1 = q
    · rw [if_pos e, if_pos e]; exact .inr ⟨_, _, rfl, rfl, h0⟩
    · rw [if_neg e, if_neg e]; exact ih
theorem sput_new : ∀ {l : SV} {q : Int} {s : Sl}, sget l q = none → sput l q s = l ++ [(q, s)]
  | [], _, _, _ => rfl
  | a :: l, q, s, h => by
    simp only [sget] at h
    split at h
    · cases h
    · rename_i hne
      simp only [sput, if_neg hne, List.cons_append]
      rw [sput_new h]
abbrev pmL (N T K E R : Nat) : List Value := [I64 N, I64 T, I64 K, I64 E, I64 R]
abbrev pmV (N T K E R : Nat) : Value := .agg #[I64 N, I64 T, I64 K, I64 E, I64 R]
abbrev pmI (N T K E R : Int) : Value := .agg #[IV N, IV T, IV K, IV E, IV R]
def GoodP (N T K E R : Int) : Prop := (∀ k, k < 4 → 0 ≤ [N, T, K, E].getD k 0 ∧ [N, T, K, E].getD k 0 ≤ 255) ∧ 1 ≤ T ∧ 1 ≤ K ∧ 1 ≤ R ∧ R ≤ 512 ∧ T + K + 2 * E ≤ N ∧ N + K ≤ 255
set_option maxHeartbeats 4000000 in
theorem good_ok (N T K E R : Int) (H : Heap) : CallsH Tryz.prog 10 [pmI N T K E R] H fun v H' => v = .bool (dec (GoodP N T K E R)) ∧ Ext H H' := by
  refine CallsH.enter h10 Tryz.func10 rfl rfl rfl (by decide) fun u => go ?_
  refine RegS.boxA fun H0 x0 z0 b0 => ?_
  refine go ?_
  refine RegS.buildSlice fun H1 o1 x1 w1 => ?_
  have b1 := b0.ext x1
  have r1 : RowF IV 0 H1 (Sl.fresh H0.size 4) [N, T, K, E] := OwnR.rowF (f := IV) (l := [N, T, K, E]) o1
  have x01 := x0.trans x1
  have no : ¬ GoodP N T K E R → (Value.bool false = Value.bool (dec (GoodP N T K E R)) ∧ Ext H H1) := fun h => ⟨by rw [dec_neg h], x01⟩
  refine go ?_
  refine Wp.loop (ι := Nat) (fun i => [(1, .pointer (some ⟨H.size, 0, none⟩)), (13, (Sl.fresh H0.size 4).val), (14, I64 4), (15, I64 i)]) (fun i A => i ≤ 4 ∧ (∀ k, k < i → 0 ≤ [N, T, K, E].getD k 0 ∧ [N, T, K, E].getD k 0 ≤ 255) ∧ H1 = A) (fun i => 4 - i) 0 subs ⟨by omega, fun k h => absurd h (by omega), rfl⟩ ?_
  rintro i _ ⟨hi, hall, rfl⟩
  have hlen : [N, T, K, E].length = 4 := rfl
  refine go ?_
  refine Wp.br (fun h => ?_) (fun h => ?_)
  · have h : (i : Int) < ((4 : Nat) : Int) := h
    refine go ?_
    refine RegS.sp (fun h1 => ?_) (fun h1 => ?_) <;> refine go ?_
    · exact ret1 (no fun k => by have := (k.1 i (by omega)).1; omega)
    refine Wp.br (fun h2 => ?_) (fun h2 => ?_) <;> refine go ?_
    · exact ret1 (no fun k => by have := (k.1 i (by omega)).2; omega)
    refine roundQ_n (i + 1) subs ⟨by omega, fun k hk => ?_, rfl⟩ (by omega)
    by_cases e : k = i
    · subst e; omega
    · exact hall k (by omega)
  have h : ¬ (i : Int) < ((4 : Nat) : Int) := h
  have : i = 4 := by omega
  subst this
  have g0 := hall 0 (by omega)
  have g1 := hall 1 (by omega)
  have g2 := hall 2 (by omega)
  have g3 := hall 3 (by omega)
  simp only [List.getD_cons_zero, List.getD_cons_succ] at g0 g1 g2 g3
  obtain ⟨n, rfl⟩ := Int.eq_ofNat_of_zero_le g0.1
  obtain ⟨t, rfl⟩ := Int.eq_ofNat_of_zero_le g1.1
  obtain ⟨k, rfl⟩ := Int.eq_ofNat_of_zero_le g2.1
  obtain ⟨e, rfl⟩ := Int.eq_ofNat_of_zero_le g3.1
  refine go ?_
  refine RegS.sp (fun c1 => ?_) (fun c1 => ?_) <;> refine go ?_
  case _ =>
    refine RegS.sp (fun c2 => ?_) (fun c2 => ?_) <;> refine go ?_
    · refine RegS.sp (fun c3 => ?_) (fun c3 => ?_) <;> refine go ?_
      · refine RegS.sp (fun c4 => ?_) (fun c4 => ?_) <;> refine go ?_
        · refine RegS.sp (fun c5 => ?_) (fun c5 => ?_) <;> refine go ?_
          · refine ret1 ⟨?_, x01⟩
            refine congrArg _ (dec_congr ⟨fun h6 => ⟨hall, by omega, by omega, by omega, by omega, by omega, by omega⟩, fun h6 => ?_⟩)
            have := h6.2.2.2.2.2.2; omega
          · exact ret1 (no fun h6 => by have := h6.2.2.2.2.2.1; omega)
        · exact ret1 (no fun h6 => by have := h6.2.2.2.2.1; omega)
      · exact ret1 (no fun h6 => by have := h6.2.2.2.1; omega)
    · exact ret1 (no fun h6 => by have := h6.2.2.1; omega)
  · exact ret1 (no fun h6 => by have := h6.2.1; omega)
end Go.Proofs.YtaikdcnifijcoaaGreat
