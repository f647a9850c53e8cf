/-
  The walks of package gf: the tables are made; products, inverses, quotients.
-/
import Derived.Test.YtaikdcnifijcoaaVcTbl
import Derived.Test.YtaikdcnifijcoaaVcRun
import Derived.Test.YtaikdcnifijcoaaVPlain
set_option linter.unusedVariables false
set_option linter.unusedSimpArgs false
namespace Go.Proofs.Ytaikdcnifijcoaa
open Go Go.Vc Go.Gf

theorem double_ok (a : UInt8) (H : Heap) : CallsH Try.prog 55 [B8 a] H fun v H' => v = B8 (dbl a) ∧ H = H' := by
  refine CallsH.enter h55 Try.func55 rfl rfl rfl (by decide) fun u => go ?_
  refine Wp.br (fun h => ?_) (fun h => ?_) <;> refine go ?_
  · refine ret1 ⟨?_, rfl⟩; rw [dbl, if_pos h]
  · refine ret1 ⟨?_, rfl⟩; rw [dbl, if_neg h]

/-- A field's tables lie in block b. -/
structure IsField (H : Heap) (b : Nat) : Prop where
  exp : ∀ k, k < 510 → hcell H ⟨b, 0 + k, none⟩ = some (B8 (gexp k))
  log : ∀ a : UInt8, hcell H ⟨b, 510 + a.toNat, none⟩ = some (.int .i64 (glog a : Int))
theorem IsField.ext {H H' : Heap} {b : Nat} (h : IsField H b) (e : Ext H H') : IsField H' b := ⟨fun k hk => e.cell (h.exp k hk), fun a => e.cell (h.log a)⟩
abbrev fieldV (b : Nat) : Value := .pointer (some ⟨b, 0, none⟩)

theorem powers1_iter : Iter Try.prog 54 [] 255 (fun k _ vs => vs = [.int .i64 (k : Int), B8 (gexp k)]) (fun _ => True) := by
  intro l J Jx H hpre hext hextx hY h0
  refine CallsH.enter h54 Try.func54 rfl rfl rfl (by decide) fun u => go ?_
  refine Wp.loop (ι := Nat) (fun k => [(0, .func (.yield l) #[] #[]), (2, B8 (gexp k)), (4, .int .i64 (k : Int))]) (fun k H => k ≤ 255 ∧ J k H) (fun k => 255 - k) 0 ⟨rfl, rfl, rfl, trivial⟩ ⟨by omega, h0⟩ ?_
  rintro k H1 ⟨hk, hJ⟩
  refine go ?_
  refine Wp.br (fun h => ?_) (fun h => ?_) <;> refine go ?_
  · refine RegS.yieldC (hY k H1 _ (by omega) hJ rfl) ?_
    rintro v H2 ⟨hA, ⟨rfl, hJ'⟩ | ⟨rfl, hJ'⟩⟩ <;> refine go ?_
    · refine RegS.call (double_ok _ _) ?_
      rintro _ _ ⟨rfl, rfl⟩
      refine go ?_
      refine roundQ_n (k+1) ⟨rfl, ?_, rfl, trivial⟩ ⟨by omega, hJ'⟩ (by omega)
      rw [gexp_succ (by omega)]; rfl
    · exact ret0 (.inr hJ')
  · refine ret0n (.inl ?_)
    have : k = 255 := by omega
    rw [← this]; exact hJ

theorem powers_ok (H : Heap) : CallsH Try.prog 23 [] H fun v H' => v = .func (.func 54) #[] #[] ∧ H = H' := by
  refine CallsH.enter h23 Try.func23 rfl rfl rfl (by decide) fun u => go ?_
  exact ret1 ⟨rfl, rfl⟩

structure Making (H0 : Heap) (fb pb : Nat) (k : Nat) (H : Heap) : Prop where
  ext : Ext H0 H
  new : H0.size ≤ fb ∧ H0.size ≤ pb ∧ fb ≠ pb
  box : Box H pb 51 (fieldV fb)
  tab : ∃ c, H[fb]? = some (.cells c 75 (0, 0)) ∧ Tabs Value B8 (fun n => .int .i64 (n : Int)) k c
theorem Making.chg {H0 H H' : Heap} {fb pb k : Nat} {S : Nat → Prop} (h : Making H0 fb pb k H) (c : Chg S H H') (h1 : ∀ b, S b → H0.size ≤ b ∧ b ≠ fb ∧ b ≠ pb) : Making H0 fb pb k H' := by
  obtain ⟨t, ht, hT⟩ := h.tab
  exact ⟨h.ext.then c fun b hb => (h1 b hb).1, h.new, h.box.chg c fun k => (h1 _ k).2.2 rfl, t, by rw [c.get fb (Array.getElem?_eq_some_iff.1 ht).1 fun k => (h1 _ k).2.1 rfl]; exact ht, hT⟩
set_option maxHeartbeats 1000000 in
theorem new_ok (H : Heap) : CallsH Try.prog 12 [] H fun v H' => ∃ b, v = fieldV b ∧ IsField H' b ∧ Ext H H' := by
  refine CallsH.enter h12 Try.func12 rfl rfl rfl (by decide) fun u => go ?_
  refine RegS.box (fun H1 e1 z1 b1 => ?_)
  refine go ?_
  refine RegS.alloc (fun H2 e2 z2 b2 => ?_)
  refine go ?_
  refine RegS.store (Box.wr ⟨b2⟩) ?_
  refine go ?_
  refine RegS.call (powers_ok _) ?_
  rintro _ _ ⟨rfl, rfl⟩
  refine go ?_
  have hM0 : Making H H.size H1.size 0 (hset H2 ⟨H1.size, 0, none⟩ (.pointer (some ⟨H.size, 0, none⟩))) := by
    refine ⟨(e1.trans e2).then (hset_chg _ _ _) (fun b hb => by simp at hb; omega), ⟨Nat.le_refl _, by omega, by omega⟩, Box.set ⟨b2⟩, ?_⟩
    refine ⟨(rl [(510, .int .u8 0), (256, .int .i64 0)]), by rw [hset_other (by show H.size ≠ H1.size; omega), e2.get _ (by omega)]; exact b1, ?_⟩
    refine ⟨by kernel_rfl, fun j hj => absurd hj (by omega), fun a ha => ?_⟩
    have h0 : a = 0 := by rcases ha with ha | ha; exact ha; omega
    subst h0
    have hz : (rl [(510, .int .u8 0), (256, .int .i64 0)])[510]? = some (.int .i64 ((0 : Nat) : Int)) := by kernel_rfl
    exact hz
  refine Wp.rangeA powers1_iter (fun k => [(1, fieldV H1.size), (2, .int .i64 (k : Int)), (3, B8 (gexp k))]) (Making H H.size H1.size) (fun _ _ => False) (fun _ _ _ => trivial)
    (fun k A B S h c hS => h.chg c fun b hb => by have := hS b hb; simp [hset_size] at this; omega) (fun _ _ _ _ h => h.elim) hM0 ?_ ?_ ?_ (fun _ _ _ _ h => h.elim)
  · intro u l k hk A
    refine go ?_
    exact ⟨rfl, rfl, rfl, rfl, rfl, rfl, trivial⟩
  · intro u l k A hk hI
    obtain ⟨c, hc, hT⟩ := hI.tab
    have hbx := hI.box.cell
    have hne := hI.new
    have hcz := hT.1
    have hg := (gexp k).toNat_lt
    refine go ?_
    have c1 := hI.box.chg (hset_chg A ⟨H.size, 0 + 0 + k, none⟩ (B8 (gexp k))) (fun e => hne.2.2 e.symm)
    have hb1 := c1.cell
    have hc1 := blk_set (j := 0 + 0 + k) (v := B8 (gexp k)) hc
    refine RegP.store ?_ ?_ ?_
    · exact blk_wr hc (by omega)
    · repeat (first | exact Proms.nil | refine Proms.cons prom ?_)
    refine go ?_
    have c2 := c1.chg (hset_chg _ ⟨H.size, 0 + 0 + (k + 255), none⟩ (B8 (gexp k))) (fun e => hne.2.2 e.symm)
    have hb2 := c2.cell
    have hc2 := blk_set (j := 0 + 0 + (k + 255)) (v := B8 (gexp k)) hc1
    refine RegP.store ?_ ?_ ?_
    · exact blk_wr hc1 (by simp; omega)
    · exact Proms.nil
    refine go ?_
    have c3 := c2.chg (hset_chg _ ⟨H.size, 0 + 510 + (gexp k).toNat, none⟩ (.int .i64 (k : Int))) (fun e => hne.2.2 e.symm)
    have hc3 := blk_set (j := 0 + 510 + (gexp k).toNat) (v := .int .i64 (k : Int)) hc2
    refine RegS.store ?_ ?_
    · exact blk_wr hc2 (by simp; omega)
    refine go ?_
    have hch := ((hset_chg A ⟨H.size, 0 + 0 + k, none⟩ (B8 (gexp k))).trans (hset_chg _ ⟨H.size, 0 + 0 + (k + 255), none⟩ (B8 (gexp k)))).trans (hset_chg _ ⟨H.size, 0 + 510 + (gexp k).toNat, none⟩ (.int .i64 (k : Int)))
    refine bodyQ_n (hch.above fun b hb => ?_) ⟨hI.ext.then hch fun b hb => ?_, hne, c3, _, hc3, ?_⟩
    · rw [hset_size]; simp at hb; omega
    · simp at hb; omega
    · have := hT.step hk
      simpa using this
  · intro A D hD hI hd
    have hbx := hI.box.cell
    refine go ?_
    refine ret1d hd ⟨_, rfl, ?_, ?_⟩
    · obtain ⟨c, hc, hT⟩ := hI.tab
      have hDs : H.size ≠ D := by rw [hset_size] at hD; omega
      have hc' : (A.setIfInBounds D (.deferred none))[H.size]? = some (.cells c 75 (0, 0)) := by rw [Array.getElem?_setIfInBounds_ne (fun e => hDs e.symm)]; exact hc
      refine ⟨fun k hk => ?_, fun a => ?_⟩
      · rw [blk_cell hc', Nat.zero_add]
        by_cases h : k < 255
        · exact (hT.2.1 k h).1
        · have := (hT.2.1 (k - 255) (by omega)).2
          rw [← gexp_add (k - 255), show k - 255 + 255 = k from by omega] at this
          exact this
      · rw [blk_cell hc']
        exact hT.2.2 a (.inr (glog_lt a))
    · refine put_ext hI.ext ?_
      simp [hset_size] at hD; omega
end Go.Proofs.Ytaikdcnifijcoaa
