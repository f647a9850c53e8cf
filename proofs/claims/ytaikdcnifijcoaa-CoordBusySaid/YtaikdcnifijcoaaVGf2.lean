/-
  The walk of gf.New, on: the tables lie in a new block.
-/
import Derived.Test.YtaikdcnifijcoaaVGf
import Derived.Test.YtaikdcnifijcoaaVcMem
set_option linter.unusedVariables false
set_option linter.unusedSimpArgs false
namespace Go.Proofs.Ytaikdcnifijcoaa
open Go Go.Vc Go.Gf
set_option maxHeartbeats 1000000 in
theorem newF_ok (H : Heap) : CallsH Try.prog 12 [] H fun v H' => ∃ b, v = fieldV b ∧ IsField H' b ∧ Ext H H' ∧ H.size ≤ b := by
  refine CallsH.enter h12 Try.func12 rfl rfl rfl (by decide) fun u => go ?_
  refine RegS.box (fun H1 e1 z1 b1 => ?_)
  refine go ?_
  refine RegS.alloc (fun H2 e2 z2 b2 => ?_)
  refine go ?_
  refine RegS.store (Box.wr ⟨b2⟩) ?_
  refine go ?_
  refine RegS.call (powers_ok _) ?_
  rintro _ _ ⟨rfl, rfl⟩
  refine go ?_
  have hM0 : Making H H.size H1.size 0 (hset H2 ⟨H1.size, 0, none⟩ (.pointer (some ⟨H.size, 0, none⟩))) := by
    refine ⟨(e1.trans e2).then (hset_chg _ _ _) (fun b hb => by simp at hb; omega), ⟨Nat.le_refl _, by omega, by omega⟩, Box.set ⟨b2⟩, ?_⟩
    refine ⟨(rl [(510, .int .u8 0), (256, .int .i64 0)]), by rw [hset_other (by show H.size ≠ H1.size; omega), e2.get _ (by omega)]; exact b1, ?_⟩
    refine ⟨by kernel_rfl, fun j hj => absurd hj (by omega), fun a ha => ?_⟩
    have h0 : a = 0 := by rcases ha with ha | ha; exact ha; omega
    subst h0
    have hz : (rl [(510, .int .u8 0), (256, .int .i64 0)])[510]? = some (.int .i64 ((0 : Nat) : Int)) := by kernel_rfl
    exact hz
  refine Wp.rangeA powers1_iter (fun k => [(1, fieldV H1.size), (2, .int .i64 (k : Int)), (3, B8 (gexp k))]) (Making H H.size H1.size) (fun _ _ => False) (fun _ _ _ => trivial)
    (fun k A B S h c hS => h.chg c fun b hb => by have := hS b hb; simp [hset_size] at this; omega) (fun _ _ _ _ h => h.elim) hM0 ?_ ?_ ?_ (fun _ _ _ _ h => h.elim)
  · intro u l k hk A
    refine go ?_
    exact ⟨rfl, rfl, rfl, rfl, rfl, rfl, trivial⟩
  · intro u l k A hk hI
    obtain ⟨c, hc, hT⟩ := hI.tab
    have hbx := hI.box.cell
    have hne := hI.new
    have hcz := hT.1
    have hg := (gexp k).toNat_lt
    refine go ?_
    have c1 := hI.box.chg (hset_chg A ⟨H.size, 0 + 0 + k, none⟩ (B8 (gexp k))) (fun e => hne.2.2 e.symm)
    have hb1 := c1.cell
    have hc1 := blk_set (j := 0 + 0 + k) (v := B8 (gexp k)) hc
    refine RegP.store ?_ ?_ ?_
    · exact blk_wr hc (by omega)
    · repeat (first | exact Proms.nil | refine Proms.cons prom ?_)
    refine go ?_
    have c2 := c1.chg (hset_chg _ ⟨H.size, 0 + 0 + (k + 255), none⟩ (B8 (gexp k))) (fun e => hne.2.2 e.symm)
    have hb2 := c2.cell
    have hc2 := blk_set (j := 0 + 0 + (k + 255)) (v := B8 (gexp k)) hc1
    refine RegP.store ?_ ?_ ?_
    · exact blk_wr hc1 (by simp; omega)
    · exact Proms.nil
    refine go ?_
    have c3 := c2.chg (hset_chg _ ⟨H.size, 0 + 510 + (gexp k).toNat, none⟩ (.int .i64 (k : Int))) (fun e => hne.2.2 e.symm)
    have hc3 := blk_set (j := 0 + 510 + (gexp k).toNat) (v := .int .i64 (k : Int)) hc2
    refine RegS.store ?_ ?_
    · exact blk_wr hc2 (by simp; omega)
    refine go ?_
    have hch := ((hset_chg A ⟨H.size, 0 + 0 + k, none⟩ (B8 (gexp k))).trans (hset_chg _ ⟨H.size, 0 + 0 + (k + 255), none⟩ (B8 (gexp k)))).trans (hset_chg _ ⟨H.size, 0 + 510 + (gexp k).toNat, none⟩ (.int .i64 (k : Int)))
    refine bodyQ_n (hch.above fun b hb => ?_) ⟨hI.ext.then hch fun b hb => ?_, hne, c3, _, hc3, ?_⟩
    · rw [hset_size]; simp at hb; omega
    · simp at hb; omega
    · have := hT.step hk
      simpa using this
  · intro A D hD hI hd
    have hbx := hI.box.cell
    refine go ?_
    refine ret1d hd ⟨_, rfl, ?_, ?_, Nat.le_refl _⟩
    · obtain ⟨c, hc, hT⟩ := hI.tab
      have hDs : H.size ≠ D := by rw [hset_size] at hD; omega
      have hc' : (A.setIfInBounds D (.deferred none))[H.size]? = some (.cells c 75 (0, 0)) := by rw [Array.getElem?_setIfInBounds_ne (fun e => hDs e.symm)]; exact hc
      refine ⟨fun k hk => ?_, fun a => ?_⟩
      · rw [blk_cell hc', Nat.zero_add]
        by_cases h : k < 255
        · exact (hT.2.1 k h).1
        · have := (hT.2.1 (k - 255) (by omega)).2
          rw [← gexp_add (k - 255), show k - 255 + 255 = k from by omega] at this
          exact this
      · rw [blk_cell hc']
        exact hT.2.2 a (.inr (glog_lt a))
    · refine put_ext hI.ext ?_
      simp [hset_size] at hD; omega
theorem clone_ok (s : Sl) (l : List UInt8) (H : Heap) (hb : Bytes H s l) (hl : l.length ≤ 140737488355328) : CallsH Try.prog 69 [s.val] H fun v H' => ∃ s' : Sl, v = s'.val ∧ OwnF B8 H' H.size 5 s' l ∧ Ext H H' := by
  refine CallsH.enter h69 Try.func69 rfl rfl rfl (by decide) fun u => go ?_
  refine Wp.brB (fun h => ?_) (fun h => ?_) <;> refine go ?_
  · have h0 := s.ok (by simpa using h)
    have hl0 : l = [] := List.eq_nil_of_length_eq_zero (by have := hb.len; omega)
    subst hl0
    exact ret1 ⟨_, rfl, OwnR.nil _ _ _ _, Ext.refl _⟩
  · refine RegS.buildSlice fun H1 o1 e1 z1 => ?_
    refine go ?_
    refine RegS.append (l' := []) (f := B8) o1 (hb.ext e1) (fun _ => rfl) ?_ ?_ ?_ ?_
    · omega
    · simpa using hl
    · simp; omega
    intro s' H2 o2 c2 b2
    refine go ?_
    exact ret1 ⟨_, rfl, o2, e1.then c2 fun b hb => (o1.blk_ge hb).1⟩
theorem clip_ok (s : Sl) (l : List UInt8) (base : Nat) (H : Heap) (hm : Mine H base s l) : CallsH Try.prog 71 [s.val] H fun v H' => v = (s.cut 0 s.len s.len).val ∧ H = H' := by
  have hb := hm.bytes
  have hcap := hm.cap
  refine CallsH.enter h71 Try.func71 rfl rfl rfl (by decide) fun u => go ?_
  refine RegS.cut 0 l.length l.length (.inl ⟨rfl, rfl⟩) (.inr ⟨_, _, rfl, rfl⟩) (.inr ⟨_, _, rfl, rfl⟩) ?_ ?_
  · have := s.le; have := hb.len; omega
  refine go ?_
  exact ret1 ⟨by rw [hb.len], rfl⟩
end Go.Proofs.Ytaikdcnifijcoaa
