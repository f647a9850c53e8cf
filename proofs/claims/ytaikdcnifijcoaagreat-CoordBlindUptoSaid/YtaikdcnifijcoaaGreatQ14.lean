/-
  The walks of package disk.
-/
import Derived.Test.YtaikdcnifijcoaaGreatQ08
import Derived.Test.YtaikdcnifijcoaaGreatQ13
import Derived.Test.YtaikdcnifijcoaaGreatQ02
import Derived.Test.YtaikdcnifijcoaaGreatQ04
import Derived.Test.YtaikdcnifijcoaaGreatQ05
import Derived.Test.YtaikdcnifijcoaaGreatQ12
set_option linter.unusedVariables false
set_option linter.unusedSimpArgs false
namespace Go.Proofs.YtaikdcnifijcoaaGreat
open Go Go.Vc Go.Gf
/-- The power of a disk: how many writes are done yet (-1: as many as there are), and whether it is gone. -/
structure Pw where
  left : Int
  gone : Bool
def Pw.wr (p : Pw) : Pw := if p.gone = true ∨ p.left = 0 then ⟨p.left, true⟩ else ⟨if 0 < p.left then p.left - 1 else p.left, false⟩
def Pw.run : Nat → Pw → Pw
  | 0, p => p
  | k + 1, p => (Pw.run k p).wr
theorem Pw.wr_gone {p : Pw} (h : p.gone = true) : p.wr = p := by
  rw [Pw.wr, if_pos (.inl h)]; cases p; simp only at h; rw [h]
theorem Pw.run_add (j k : Nat) (p : Pw) : Pw.run (j + k) p = Pw.run k (Pw.run j p) := by
  induction k with
  | zero => rfl
  | succ k ih => rw [← Nat.add_assoc, Pw.run, ih]; rfl
theorem Pw.run_gone {p : Pw} (h : p.gone = true) : ∀ k, Pw.run k p = p
  | 0 => rfl
  | k + 1 => by rw [Pw.run, Pw.run_gone h k, Pw.wr_gone h]
/-- Behind a write that was not done nothing is done any more. -/
theorem Pw.run_stop {p : Pw} {j k : Nat} (h : (Pw.run j p).gone = true) (hk : j ≤ k) : Pw.run k p = Pw.run j p := by
  obtain ⟨d, rfl⟩ : ∃ d, k = j + d := ⟨k - j, by omega⟩
  rw [Pw.run_add, Pw.run_gone h]
theorem Pw.run_ok {p : Pw} {j k : Nat} (h : (Pw.run k p).gone = false) (hk : j ≤ k) : (Pw.run j p).gone = false := by
  cases hg : (Pw.run j p).gone with
  | false => rfl
  | true => rw [Pw.run_stop hg hk, hg] at h; cases h
def pw0 : Pw := ⟨-1, false⟩
theorem pw0_run : ∀ k, Pw.run k pw0 = pw0
  | 0 => rfl
  | k + 1 => by rw [Pw.run, pw0_run k]; rfl
def takesN (n : Nat) : Nat := (n + 31) / 32
/-- What is kept on a disk. -/
structure Slt where
  room : Nat
  kept : List UInt8
  pw : Pw
def Slt.save (s : Slt) (b : List UInt8) : Slt × Nat :=
  if s.room < takesN b.length then (s, 7) else
  if (Pw.run (takesN b.length + 1) s.pw).gone = true then ({ s with pw := Pw.run (takesN b.length + 1) s.pw }, 3) else
  ({ s with kept := b, pw := Pw.run (takesN b.length + 1 + takesN s.kept.length) s.pw }, if (Pw.run (takesN b.length + 1 + takesN s.kept.length) s.pw).gone = true then 3 else 0)
def slt0 (room : Int) : Slt := ⟨(min (max room 0) 512).toNat, [], pw0⟩
def pieceB (b : List UInt8) (i : Nat) : List UInt8 := mk 32 fun j => b.getD (32 * i + j) 0
def zeroB : List UInt8 := List.replicate 32 0
def rootB (side n : Nat) : List UInt8 := [UInt8.ofNat side, UInt8.ofNat (n >>> 24), UInt8.ofNat (n >>> 16), UInt8.ofNat (n >>> 8), UInt8.ofNat n] ++ List.replicate 27 0
/-- A book. -/
structure BookA where
  session : Int
  decided : Int
  epoch : Int
  dir : List HdT
  up : List Bool
  commit : List Int
def flagI (b : Bool) : Int := if b = true then 1 else 0
def bookB (k : BookA) : List UInt8 := putB [k.session, k.decided, k.epoch] ++ (putB [(k.dir.length : Int)] ++ headsB k.dir) ++ putB [(k.up.length : Int)] ++ putB (k.up.map flagI) ++ (putB [(k.commit.length : Int)] ++ putB k.commit)
def book0 (n : Nat) : BookA := ⟨0, 0, 0, [], List.replicate n true, List.replicate n 0⟩
/-- A book that has bytes, and not too many. -/
structure BookFit (n : Nat) (k : BookA) : Prop where
  session : 0 ≤ k.session ∧ k.session ≤ 1073741824
  decided : 0 ≤ k.decided ∧ k.decided ≤ 1073741824
  epoch : 0 ≤ k.epoch ∧ k.epoch ≤ 1048576
  dir : k.dir.length ≤ 8
  each : ∀ h ∈ k.dir, 1 ≤ h.1.length ∧ h.1.length ≤ 16 ∧ 0 ≤ h.2 ∧ h.2 ≤ 256
  up : k.up.length = n
  commit : k.commit.length = n
  com : ∀ c ∈ k.commit, 0 ≤ c ∧ c ≤ 1073741824
end Go.Proofs.YtaikdcnifijcoaaGreat
set_option linter.unusedVariables false
set_option linter.unusedSimpArgs false
namespace Go.Proofs.YtaikdcnifijcoaaGreat
open Go Go.Vc Go.Gf
theorem double_ok (a : UInt8) (H : Heap) : CallsH Tryz.prog 177 [B8 a] H fun v H' => v = B8 (dbl a) ∧ H = H' := by
  refine CallsH.enter h177 Tryz.func177 rfl rfl rfl (by decide) fun u => go ?_
  refine Wp.br (fun h => ?_) (fun h => ?_) <;> refine go ?_
  · refine ret1 ⟨?_, rfl⟩; rw [dbl, if_pos h]
  · refine ret1 ⟨?_, rfl⟩; rw [dbl, if_neg h]
/-- A field's tables lie in block b. -/
structure IsField (H : Heap) (b : Nat) : Prop where
  exp : ∀ k, k < 510 → hcell H ⟨b, 0 + k, none⟩ = some (B8 (gexp k))
  log : ∀ a : UInt8, hcell H ⟨b, 510 + a.toNat, none⟩ = some (.int .i64 (glog a : Int))
theorem IsField.ext {H H' : Heap} {b : Nat} (h : IsField H b) (e : Ext H H') : IsField H' b := ⟨fun k hk => e.cell (h.exp k hk), fun a => e.cell (h.log a)⟩
abbrev fieldV (b : Nat) : Value := .pointer (some ⟨b, 0, none⟩)
set_option maxHeartbeats 400000 in
theorem mul_ok (b : Nat) (x y : UInt8) (H : Heap) (hF : IsField H b) : CallsH Tryz.prog 232 [fieldV b, B8 x, B8 y] H fun v H' => v = B8 (gmul x y) ∧ H = H' := by
  have hx := hF.log x
  have hy := hF.log y
  have lx := glog_lt x
  have ly := glog_lt y
  have he := hF.exp (glog x + glog y) (by omega)
  refine CallsH.enter h232 Tryz.func232 rfl rfl rfl (by decide) fun u => go ?_
  refine RegS.sp (fun h => ?_) (fun h => ?_) <;> refine go ?_
  · refine ret1 ⟨?_, rfl⟩; rw [gmul, if_pos (.inl (show x = 0 from h))]
  · refine Wp.br (fun h' => ?_) (fun h' => ?_) <;> refine go ?_
    · refine ret1 ⟨?_, rfl⟩; rw [gmul, if_pos (.inr (show y = 0 from h'))]
    · refine ret1 ⟨?_, rfl⟩; rw [gmul, if_neg (by rintro (e | e); exact h e; exact h' e)]
set_option maxHeartbeats 400000 in
theorem inv_ok (b : Nat) (x : UInt8) (H : Heap) (hF : IsField H b) : CallsH Tryz.prog 252 [fieldV b, B8 x] H fun v H' => v = .tuple #[B8 (ginv x), .bool (dec (x ≠ 0))] ∧ H = H' := by
  have hx := hF.log x
  have lx := glog_lt x
  have he := hF.exp (255 - glog x) (by omega)
  refine CallsH.enter h252 Tryz.func252 rfl rfl rfl (by decide) fun u => go ?_
  refine Wp.br (fun h => ?_) (fun h => ?_) <;> refine go ?_
  · refine ret2 ⟨?_, rfl⟩; rw [ginv, if_pos (show x = 0 from h), dec_neg (fun k => k h)]
  · refine ret2 ⟨?_, rfl⟩; rw [ginv, if_neg (show ¬x = 0 from h), dec_pos (show x ≠ 0 from h)]
theorem powers1_iter : Iter Tryz.prog 176 [] 255 (fun k _ vs => vs = [.int .i64 (k : Int), B8 (gexp k)]) (fun _ => True) := by
  intro l J Jx H hpre hext hextx hY h0
  refine CallsH.enter h176 Tryz.func176 rfl rfl rfl (by decide) fun u => go ?_
  refine Wp.loop (ι := Nat) (fun k => [(0, .func (.yield l) #[] #[]), (2, B8 (gexp k)), (4, .int .i64 (k : Int))]) (fun k H => k ≤ 255 ∧ J k H) (fun k => 255 - k) 0 ⟨rfl, rfl, rfl, trivial⟩ ⟨by omega, h0⟩ ?_
  rintro k H1 ⟨hk, hJ⟩
  refine go ?_
  refine Wp.br (fun h => ?_) (fun h => ?_) <;> refine go ?_
  · refine RegS.yieldC (hY k H1 _ (by omega) hJ rfl) ?_
    rintro v H2 ⟨hA, ⟨rfl, hJ'⟩ | ⟨rfl, hJ'⟩⟩ <;> refine go ?_
    · refine RegS.call (double_ok _ _) ?_
      rintro _ _ ⟨rfl, rfl⟩
      refine go ?_
      refine roundQ_n (k+1) ⟨rfl, ?_, rfl, trivial⟩ ⟨by omega, hJ'⟩ (by omega)
      rw [gexp_succ (by omega)]; rfl
    · exact ret0 (.inr hJ')
  · refine ret0n (.inl ?_)
    have : k = 255 := by omega
    rw [← this]; exact hJ
theorem powers_ok (H : Heap) : CallsH Tryz.prog 115 [] H fun v H' => v = .func (.func 176) #[] #[] ∧ H = H' := by
  refine CallsH.enter h115 Tryz.func115 rfl rfl rfl (by decide) fun u => go ?_
  exact ret1 ⟨rfl, rfl⟩
structure Making (H0 : Heap) (fb pb : Nat) (k : Nat) (H : Heap) : Prop where
  ext : Ext H0 H
  new : H0.size ≤ fb ∧ H0.size ≤ pb ∧ fb ≠ pb
  box : Box H pb 98 (fieldV fb)
  tab : ∃ c, H[fb]? = some (.cells c 164 (0, 0)) ∧ Tabs Value B8 (fun n => .int .i64 (n : Int)) k c
theorem Making.chg {H0 H H' : Heap} {fb pb k : Nat} {S : Nat → Prop} (h : Making H0 fb pb k H) (c : Chg S H H') (h1 : ∀ b, S b → H0.size ≤ b ∧ b ≠ fb ∧ b ≠ pb) : Making H0 fb pb k H' := by
  obtain ⟨t, ht, hT⟩ := h.tab
  exact ⟨h.ext.then c fun b hb => (h1 b hb).1, h.new, h.box.chg c fun k => (h1 _ k).2.2 rfl, t, by rw [c.get fb (Array.getElem?_eq_some_iff.1 ht).1 fun k => (h1 _ k).2.1 rfl]; exact ht, hT⟩
end Go.Proofs.YtaikdcnifijcoaaGreat
set_option linter.unusedVariables false
set_option linter.unusedSimpArgs false
namespace Go.Proofs.YtaikdcnifijcoaaGreat
open Go Go.Vc Go.Gf
set_option maxHeartbeats 1000000 in
theorem newF_ok (H : Heap) : CallsH Tryz.prog 51 [] H fun v H' => ∃ b, v = fieldV b ∧ IsField H' b ∧ Ext H H' ∧ H.size ≤ b := by
  refine CallsH.enter h51 Tryz.func51 rfl rfl rfl (by decide) fun u => go ?_
  refine RegS.box (fun H1 e1 z1 b1 => ?_)
  refine go ?_
  refine RegS.alloc (fun H2 e2 z2 b2 => ?_)
  refine go ?_
  refine RegS.store (Box.wr ⟨b2⟩) ?_
  refine go ?_
  refine RegS.call (powers_ok _) ?_
  rintro _ _ ⟨rfl, rfl⟩
  refine go ?_
  have hM0 : Making H H.size H1.size 0 (hset H2 ⟨H1.size, 0, none⟩ (.pointer (some ⟨H.size, 0, none⟩))) := by
    refine ⟨(e1.trans e2).then (hset_chg _ _ _) (fun b hb => by simp at hb; omega), ⟨Nat.le_refl _, by omega, by omega⟩, Box.set ⟨b2⟩, ?_⟩
    refine ⟨(rl [(510, .int .u8 0), (256, .int .i64 0)]), by rw [hset_other (by show H.size ≠ H1.size; omega), e2.get _ (by omega)]; exact b1, ?_⟩
    refine ⟨by kernel_rfl, fun j hj => absurd hj (by omega), fun a ha => ?_⟩
    have h0 : a = 0 := by rcases ha with ha | ha; exact ha; omega
    subst h0
    have hz : (rl [(510, .int .u8 0), (256, .int .i64 0)])[510]? = some (.int .i64 ((0 : Nat) : Int)) := by kernel_rfl
    exact hz
  refine Wp.rangeA powers1_iter (fun k => [(1, fieldV H1.size), (2, .int .i64 (k : Int)), (3, B8 (gexp k))]) (Making H H.size H1.size) (fun _ _ => False) (fun _ _ _ => trivial)
    (fun k A B S h c hS => h.chg c fun b hb => by have := hS b hb; simp [hset_size] at this; omega) (fun _ _ _ _ h => h.elim) hM0 ?_ ?_ ?_ (fun _ _ _ _ h => h.elim)
  · intro u l k hk A
    refine go ?_
    exact ⟨rfl, rfl, rfl, rfl, rfl, rfl, trivial⟩
  · intro u l k A hk hI
    obtain ⟨c, hc, hT⟩ := hI.tab
    have hbx := hI.box.cell
    have hne := hI.new
    have hcz := hT.1
    have hg := (gexp k).toNat_lt
    refine go ?_
    have c1 := hI.box.chg (hset_chg A ⟨H.size, 0 + 0 + k, none⟩ (B8 (gexp k))) (fun e => hne.2.2 e.symm)
    have hb1 := c1.cell
    have hc1 := blk_set (j := 0 + 0 + k) (v := B8 (gexp k)) hc
    refine RegP.store ?_ ?_ ?_
    · exact blk_wr hc (by omega)
    · repeat (first | exact Proms.nil | refine Proms.cons prom ?_)
    refine go ?_
    have c2 := c1.chg (hset_chg _ ⟨H.size, 0 + 0 + (k + 255), none⟩ (B8 (gexp k))) (fun e => hne.2.2 e.symm)
    have hb2 := c2.cell
    have hc2 := blk_set (j := 0 + 0 + (k + 255)) (v := B8 (gexp k)) hc1
    refine RegP.store ?_ ?_ ?_
    · exact blk_wr hc1 (by simp; omega)
    · exact Proms.nil
    refine go ?_
    have c3 := c2.chg (hset_chg _ ⟨H.size, 0 + 510 + (gexp k).toNat, none⟩ (.int .i64 (k : Int))) (fun e => hne.2.2 e.symm)
    have hc3 := blk_set (j := 0 + 510 + (gexp k).toNat) (v := .int .i64 (k : Int)) hc2
    refine RegS.store ?_ ?_
    · exact blk_wr hc2 (by simp; omega)
    refine go ?_
    have hch := ((hset_chg A ⟨H.size, 0 + 0 + k, none⟩ (B8 (gexp k))).trans (hset_chg _ ⟨H.size, 0 + 0 + (k + 255), none⟩ (B8 (gexp k)))).trans (hset_chg _ ⟨H.size, 0 + 510 + (gexp k).toNat, none⟩ (.int .i64 (k : Int)))
    refine bodyQ_n (hch.above fun b hb => ?_) ⟨hI.ext.then hch fun b hb => ?_, hne, c3, _, hc3, ?_⟩
    · rw [hset_size]; simp at hb; omega
    · simp at hb; omega
    · have := hT.step hk
      simpa using this
  · intro A D hD hI hd
    have hbx := hI.box.cell
    refine go ?_
    refine ret1d hd ⟨_, rfl, ?_, ?_, Nat.le_refl _⟩
    · obtain ⟨c, hc, hT⟩ := hI.tab
      have hDs : H.size ≠ D := by rw [hset_size] at hD; omega
      have hc' : (A.setIfInBounds D (.deferred none))[H.size]? = some (.cells c 164 (0, 0)) := by rw [Array.getElem?_setIfInBounds_ne (fun e => hDs e.symm)]; exact hc
      refine ⟨fun k hk => ?_, fun a => ?_⟩
      · rw [blk_cell hc', Nat.zero_add]
        by_cases h : k < 255
        · exact (hT.2.1 k h).1
        · have := (hT.2.1 (k - 255) (by omega)).2
          rw [← gexp_add (k - 255), show k - 255 + 255 = k from by omega] at this
          exact this
      · rw [blk_cell hc']
        exact hT.2.2 a (.inr (glog_lt a))
    · refine put_ext hI.ext ?_
      simp [hset_size] at hD; omega
theorem clone_ok (s : Sl) (l : List UInt8) (H : Heap) (hb : Bytes H s l) (hl : l.length ≤ 140737488355328) : CallsH Tryz.prog 56 [s.val] H fun v H' => ∃ s' : Sl, v = s'.val ∧ OwnF B8 H' H.size 5 s' l ∧ Ext H H' := by
  refine CallsH.enter h56 Tryz.func56 rfl rfl rfl (by decide) fun u => go ?_
  refine Wp.brB (fun h => ?_) (fun h => ?_) <;> refine go ?_
  · have h0 := s.ok (by simpa using h)
    have hl0 : l = [] := List.eq_nil_of_length_eq_zero (by have := hb.len; omega)
    subst hl0
    exact ret1 ⟨_, rfl, OwnR.nil _ _ _ _, Ext.refl _⟩
  · refine RegS.buildSlice fun H1 o1 e1 z1 => ?_
    refine go ?_
    refine RegS.append (l' := []) (f := B8) o1 (hb.ext e1) (fun _ => rfl) ?_ ?_ ?_ ?_
    · omega
    · simpa using hl
    · simp; omega
    intro s' H2 o2 c2 b2
    refine go ?_
    exact ret1 ⟨_, rfl, o2, e1.then c2 fun b hb => (o1.blk_ge hb).1⟩
theorem clip_ok (s : Sl) (l : List UInt8) (base : Nat) (H : Heap) (hm : Mine H base s l) : CallsH Tryz.prog 191 [s.val] H fun v H' => v = (s.cut 0 s.len s.len).val ∧ H = H' := by
  have hb := hm.bytes
  have hcap := hm.cap
  refine CallsH.enter h191 Tryz.func191 rfl rfl rfl (by decide) fun u => go ?_
  refine RegS.cut 0 l.length l.length (.inl ⟨rfl, rfl⟩) (.inr ⟨_, _, rfl, rfl⟩) (.inr ⟨_, _, rfl, rfl⟩) ?_ ?_
  · have := s.le; have := hb.len; omega
  refine go ?_
  exact ret1 ⟨by rw [hb.len], rfl⟩
end Go.Proofs.YtaikdcnifijcoaaGreat
set_option linter.unusedVariables false
set_option linter.unusedSimpArgs false
namespace Go.Proofs.YtaikdcnifijcoaaGreat
open Go Go.Vc Go.Gf
abbrev ptrD (b : Nat) : Value := .pointer (some ⟨b, 0, none⟩)
theorem Bytes.notB {H : Heap} {s : Sl} {l : List UInt8} {b : Nat} {T : TypeId} {cs : List Value} (h : Bytes H s l) (k : Blk H b T cs) (hv : ∀ v ∈ cs, ∀ x, v ≠ B8 x) : 0 < s.len → ∀ c, s.blk = some c → c < H.size ∧ ¬ c = b := fun hp c hc => by
  refine ⟨RowF.lt h hp c hc, fun e => ?_⟩
  subst e
  have h0 := h.cell 0 (by have := h.len; omega)
  have hb := Sl.cell_blk (j := 0) hc
  unfold hcell at h0
  rw [hb, k.at_] at h0
  simp only at h0
  split at h0
  · exact absurd h0 (by simp)
  · have hm := List.mem_of_getElem? (by simpa using h0)
    exact hv _ hm _ rfl
/-- A disk, all of it the owner's. -/
structure DiskIn (H : Heap) (O : Ow) (k db : Nat) (bl : List (List UInt8)) (p : Pw) (s : Sl) (ss : List Sl) (w : Int) : Prop where
  blk : Blk H db 239 [s.val, IV p.left, .bool p.gone, IV w]
  mat : Mat H 0 36 s ss bl
  own : O db = k
  ownA : ∀ b, s.blk = some b → O b = k ∧ b ≠ db
  ownR : ∀ j, j < bl.length → ∀ b, (ss.getD j Sl.nil).blk = some b → O b = k ∧ b ≠ db
def DiskAt (H : Heap) (O : Ow) (k db : Nat) (bl : List (List UInt8)) (p : Pw) : Prop := ∃ s ss w, DiskIn H O k db bl p s ss w
theorem DiskIn.step {S : Nat → Prop} {H H' : Heap} {O O' : Ow} {k db : Nat} {bl : List (List UInt8)} {p : Pw} {s : Sl} {ss : List Sl} {w : Int} (h : DiskIn H O k db bl p s ss w) (st : Step S H O H' O') (hk : ¬ S k) : DiskIn H' O' k db bl p s ss w :=
  ⟨h.blk.step st (by rw [h.own]; exact hk), h.mat.chg' st.chg (fun b hb => by rw [(h.ownA b hb).1]; exact hk) (fun j b hj hb => by rw [(h.ownR j hj b hb).1]; exact hk), st.own h.blk.lt h.own,
    fun b hb => ⟨st.own (h.mat.arr.blk_ge hb).2 (h.ownA b hb).1, (h.ownA b hb).2⟩, fun j hj b hb => ⟨st.own ((h.mat.each j hj).blk b hb).2 (h.ownR j hj b hb).1, (h.ownR j hj b hb).2⟩⟩
theorem DiskAt.step {S : Nat → Prop} {H H' : Heap} {O O' : Ow} {k db : Nat} {bl : List (List UInt8)} {p : Pw} (h : DiskAt H O k db bl p) (st : Step S H O H' O') (hk : ¬ S k) : DiskAt H' O' k db bl p := by
  obtain ⟨s, ss, w, h⟩ := h
  exact ⟨s, ss, w, h.step st hk⟩
theorem DiskAt.ext {H H' : Heap} {O : Ow} {k db : Nat} {bl : List (List UInt8)} {p : Pw} (h : DiskAt H O k db bl p) (w : WfO H O) (e : Ext H H') : DiskAt H' O k db bl p := h.step (S := fun _ => False) (e.step w) id
section
variable {H : Heap} {O : Ow} {k db : Nat} {bl : List (List UInt8)} {p : Pw}
theorem dthere_ok (n : Nat) (h : DiskAt H O k db bl p) : CallsH Tryz.prog 207 [ptrD db, I64 n] H fun v H' => v = .bool (dec ((n : Int) < (bl.length : Nat))) ∧ H = H' := by
  obtain ⟨s, ss, w, h⟩ := h
  have hb := h.blk
  have hr := h.mat.row
  have hl := h.mat.len
  refine CallsH.enter h207 Tryz.func207 rfl rfl rfl (by decide) fun u => run ?_
  rw [hl]
  refine run ?_
  exact ret1 ⟨rfl, rfl⟩
theorem read_ok (n : Nat) (hn : n < bl.length) (h32 : ∀ b ∈ bl, b.length = 32) (h : DiskAt H O k db bl p) : CallsH Tryz.prog 140 [ptrD db, I64 n] H fun v H' => ∃ s : Sl, v = .tuple #[s.val, .bool true] ∧ OwnF B8 H' H.size 5 s (bl.getD n []) ∧ Ext H H' := by
  refine CallsH.enter h140 Tryz.func140 rfl rfl rfl (by decide) fun u => run ?_
  refine RegS.call (dthere_ok n h) ?_
  rintro _ _ ⟨rfl, rfl⟩
  obtain ⟨s, ss, w, h⟩ := h
  have hb := h.blk
  have hr := h.mat.row
  have hl := h.mat.len
  have hby := h.mat.bytes hn
  have hlen : (bl.getD n []).length = 32 := h32 _ (by rw [List.getD_eq_getElem?_getD, List.getElem?_eq_getElem hn]; exact List.getElem_mem _)
  refine run ?_
  refine RegS.call (clone_ok (ss.getD n Sl.nil) (bl.getD n []) H hby (by omega)) ?_
  rintro _ H1 ⟨c, rfl, o1, x1⟩
  refine run ?_
  exact ret2 ⟨c, rfl, o1, x1⟩
theorem dnew_ok (n : Nat) (hw : WfO H O) (hn : n ≤ 2048) (hk : k ≠ 0) : CallsH Tryz.prog 197 [I64 n] H fun v H' => ∃ db O', v = ptrD db ∧ Step (fun _ => False) H O H' O' ∧ DiskAt H' O' k db (List.replicate n zeroB) pw0 ∧ H.size ≤ db := by
  refine CallsH.enter h197 Tryz.func197 rfl rfl rfl (by decide) fun u => run ?_
  refine RegS.boxA fun H1 x1 z1 b1 => ?_
  have b1 : Blk H1 H.size 239 [Sl.nil.val, IV (-1), .bool false, IV 0] := b1
  refine run ?_
  rw [show min (max n 0) 2048 = n by omega]
  refine Wp.loop (ι := Nat × Sl × List Sl) (fun i => [(3, ptrD H.size), (8, I64 n), (9, I64 i.1)]) (fun i A => i.1 ≤ n ∧ Blk A H.size 239 [i.2.1.val, IV (-1), .bool false, IV 0] ∧ Mat A H1.size 36 i.2.1 i.2.2 (List.replicate i.1 zeroB) ∧ Ext H A ∧ H1.size ≤ A.size) (fun i => n - i.1) (0, Sl.nil, []) subs ⟨Nat.zero_le _, b1, Mat.nil _ _ _, x1, Nat.le_refl _⟩ ?_
  rintro ⟨i, t, ss⟩ A ⟨hi, bA, mA, xA, zA⟩
  have hi : i ≤ n := hi
  have bA : Blk A H.size 239 [t.val, IV (-1), .bool false, IV 0] := bA
  have mA : Mat A H1.size 36 t ss (List.replicate i zeroB) := mA
  have hml := mA.len
  rw [List.length_replicate] at hml
  have hlt := bA.lt
  show Wp _ _ _ [(3, ptrD H.size), (8, I64 n), (9, I64 i)] _ _
  refine run ?_
  refine Wp.br (fun hlt2 => ?_) (fun hlt2 => ?_)
  case refine_2 =>
    have hlt2 : ¬ (i : Int) < (n : Int) := hlt2
    have : i = n := by omega
    subst this
    refine run ?_
    refine ret1 ⟨H.size, O.give (fun x => H.size ≤ x ∧ x < A.size) k, rfl, (xA.step hw).give fun x hx => hx, ⟨t, ss, 0, bA, mA.low (Nat.zero_le _), Ow.give_pos ⟨Nat.le_refl _, hlt⟩, fun x hx => ?_, fun j hj x hx => ?_⟩, Nat.le_refl _⟩
    · have := mA.arr.blk_ge hx
      exact ⟨Ow.give_pos ⟨by omega, this.2⟩, by omega⟩
    · have := (mA.each j hj).blk x hx
      exact ⟨Ow.give_pos ⟨by omega, this.2⟩, by omega⟩
  have hlt2 : (i : Int) < (n : Int) := hlt2
  refine run ?_
  refine RegP.makeSlice (n := 32) ?_ ?_ (fun A1 o1 y1 w1 => ?_)
  · omega
  · omega
  have o1' : OwnF B8 A1 A.size 5 (Sl.fresh A.size 32) zeroB := o1
  have bA1 := bA.ext y1
  refine run ?_
  refine RegP.buildSlice fun A2 o2 y2 w2 => ?_
  have bA2 := bA1.ext y2
  have r2 : RowF Sl.val Sl.nil A2 (Sl.fresh A1.size 1) [Sl.fresh A.size 32] := OwnR.rowF (f := Sl.val) (l := [Sl.fresh A.size 32]) o2
  have mA2 := mA.ext (y1.trans y2)
  refine run ?_
  refine RegP.append (f := Sl.val) mA2.arr r2 (fun _ => rfl) (by omega) ?_ ?_ ?_
  · simp only [List.length_singleton]; omega
  · simp only [List.length_singleton]; omega
  intro t' A3 o3 c3 b3
  have bA3 : Blk A3 H.size 239 [t.val, IV (-1), .bool false, IV 0] := bA2.chg c3 fun hx => by have := (mA2.arr.blk_ge hx).1; omega
  have hm3 := Mat.app (S := fun _ => False) (l := zeroB) mA2 ((OwnR.mine (o1'.ext y2)).low (by omega)) (fun j x hj hx hx' => by have := ((mA.each j hj).blk x hx).2; simp [Sl.blk, Sl.fresh] at hx'; omega) (fun x hx hx' => by have := (mA.arr.blk_ge hx').2; simp [Sl.blk, Sl.fresh] at hx; omega) o3 c3 b3
  refine ⟨.inr proms2, ?_⟩
  refine run ?_
  refine RegP.store (v := t'.val) (Blk.wr bA3 (j := 0) (by simp)) ?_ ?_
  · exact proms2
  have c4 := hset_chg A3 ⟨H.size, 0, none⟩ t'.val
  have bA4 : Blk (hset A3 ⟨H.size, 0, none⟩ t'.val) H.size 239 [t'.val, IV (-1), .bool false, IV 0] := Blk.set (j := 0) (v := t'.val) bA3
  have z12 := y1.size
  have z22 := y2.size
  have z3 := c3.size
  have hm4 := hm3.chg c4 fun x hx _ hx' => by simp only at hx'; omega
  rw [← List.replicate_succ'] at hm4
  have x4 : Ext H (hset A3 ⟨H.size, 0, none⟩ t'.val) := ((xA.trans (y1.trans y2)).then c3 fun x hx => by have := (mA2.arr.blk_ge hx).1; omega).then c4 fun x hx => by simp only at hx; omega
  have z4 := c4.size
  generalize hset A3 ⟨H.size, 0, none⟩ t'.val = A4 at bA4 hm4 x4 z4 ⊢
  refine run ?_
  exact roundQ_n (i + 1, t', ss ++ [Sl.fresh A.size 32]) subs ⟨by simp only; omega, bA4, hm4, x4, by omega⟩ (by simp only; omega)
theorem ddown_ok (h : DiskAt H O k db bl p) : CallsH Tryz.prog 167 [ptrD db] H fun v H' => v = .bool p.gone ∧ H = H' := by
  obtain ⟨s, ss, w, h⟩ := h
  have hb := h.blk
  refine CallsH.enter h167 Tryz.func167 rfl rfl rfl (by decide) fun u => run ?_
  exact ret1 ⟨rfl, rfl⟩
/-- Another row in a row's place. -/
theorem Mat.row' {H : Heap} {base : Nat} {e : TypeId} {t s : Sl} {ss : List Sl} {m : List (List UInt8)} {l : List UInt8} (h : Mat H base e t ss m) {i : Nat} (hi : i < m.length) (hs : Mine H base s l) (hsep : ∀ k b, k < m.length → (ss.getD k Sl.nil).blk = some b → s.blk ≠ some b) (hst : ∀ b, s.blk = some b → t.blk ≠ some b) :
    Mat (hset H (t.cell i) s.val) base e t (ss.set i s) (m.set i l) ∧ Chg (fun b => t.blk = some b) H (hset H (t.cell i) s.val) := by
  have hl := h.len
  obtain ⟨o1, c1⟩ := OwnR.set h.arr (j := i) (by simp; omega) s.val
  refine ⟨⟨by rw [OwnF, List.map_set]; exact o1, by simp [hl], fun k hk => ?_, fun a b ha hb => ?_, fun k hk b => ?_⟩, c1⟩
  · rw [List.length_set] at hk
    rw [getD_setL (by omega), getD_setL hi]
    split
    · exact hs.chg c1 fun b hb hb' => hst b hb hb'
    · exact (h.each k hk).chg c1 fun b hb hb' => h.apart k hk b hb hb'
  · rw [List.length_set] at ha hb
    intro hab x
    rw [getD_setL (by omega), getD_setL (by omega)]
    split <;> split <;> intro hx
    · omega
    · exact fun hx' => hsep b x hb hx' hx
    · exact hsep a x ha hx
    · exact h.diff a b ha hb hab x hx
  · rw [List.length_set] at hk
    rw [getD_setL (by omega)]
    split
    · exact hst b
    · exact h.apart k hk b
set_option maxHeartbeats 4000000 in
theorem write_ok (n : Nat) (b : Sl) (data : List UInt8) (hn : n < bl.length) (hd : Bytes H b data) (h32 : data.length = 32) (hw : WfO H O) (h : DiskAt H O k db bl p) (hp : -1 ≤ p.left ∧ p.left ≤ 9223372036854775807) (hk : k ≠ 0) :
    CallsH Tryz.prog 223 [ptrD db, I64 n, b.val] H fun v H' => ∃ O', Step (· = k) H O H' O' ∧ DiskAt H' O' k db (if p.wr.gone = true then bl else bl.set n data) p.wr ∧ v = I64 (if p.wr.gone = true then 3 else 0) := by
  refine CallsH.enter h223 Tryz.func223 rfl rfl rfl (by decide) fun u => run ?_
  refine RegS.call (dthere_ok n h) ?_
  rintro _ _ ⟨rfl, rfl⟩
  obtain ⟨s, ss, w, h⟩ := h
  obtain ⟨left, gone⟩ := p
  have hb : Blk H db 239 [s.val, IV left, .bool gone, IV w] := h.blk
  simp only at hp
  refine run ?_
  have hmt : ∀ {A : Heap}, Chg (· = db) H A → Mat A 0 36 s ss bl := fun c => h.mat.chg' c (fun b hb' => (h.ownA b hb').2) (fun j b hj hb' => (h.ownR j hj b hb').2)
  have hst : ∀ {A : Heap}, Chg (· = db) H A → Step (· = k) H O A O := fun c => c.step hw fun x _ hx => by subst hx; exact h.own
  cases gone with
  | true =>
    have e : (⟨left, true⟩ : Pw).wr = ⟨left, true⟩ := Pw.wr_gone rfl
    refine run ?_
    refine RegS.store (v := .bool true) (Blk.wr hb (j := 2) (by simp)) ?_
    have c1 := hset_chg H ⟨db, 2, none⟩ (.bool true)
    have hb1 : Blk (hset H ⟨db, 2, none⟩ (.bool true)) db 239 [s.val, IV left, .bool true, IV w] := Blk.set (j := 2) (v := .bool true) hb
    refine run ?_
    rw [e]
    exact ret1 ⟨O, hst c1, ⟨s, ss, w, hb1, hmt c1, h.own, h.ownA, h.ownR⟩, rfl⟩
  | false =>
  by_cases h0 : left = 0
  · subst h0
    have e : (⟨0, false⟩ : Pw).wr = ⟨0, true⟩ := rfl
    refine run ?_
    refine RegS.store (v := .bool true) (Blk.wr hb (j := 2) (by simp)) ?_ rfl rfl (by rw [dec_pos (show (0 : Int) = ((0 : Nat) : Int) by omega)]; rfl)
    have c1 := hset_chg H ⟨db, 2, none⟩ (.bool true)
    have hb1 : Blk (hset H ⟨db, 2, none⟩ (.bool true)) db 239 [s.val, IV 0, .bool true, IV w] := Blk.set (j := 2) (v := .bool true) hb
    refine run ?_
    rw [e]
    exact ret1 ⟨O, hst c1, ⟨s, ss, w, hb1, hmt c1, h.own, h.ownA, h.ownR⟩, rfl⟩
  have e : (⟨left, false⟩ : Pw).wr = ⟨if 0 < left then left - 1 else left, false⟩ := by rw [Pw.wr, if_neg (by simp [h0])]
  refine run ?_
  refine RegS.store (v := .bool false) (Blk.wr hb (j := 2) (by simp)) ?_ rfl rfl (by rw [dec_neg (show ¬ left = ((0 : Nat) : Int) by omega)]; rfl)
  have c1 := hset_chg H ⟨db, 2, none⟩ (.bool false)
  have hb1 : Blk (hset H ⟨db, 2, none⟩ (.bool false)) db 239 [s.val, IV left, .bool false, IV w] := Blk.set (j := 2) (v := .bool false) hb
  generalize hset H ⟨db, 2, none⟩ (.bool false) = H1 at c1 hb1 ⊢
  refine run ?_
  refine Wp.mid (ι := Unit) (fun _ => [(0, ptrD db), (1, I64 n), (2, b.val)]) (fun _ A => Chg (· = db) H A ∧ Blk A db 239 [s.val, IV (if 0 < left then left - 1 else left), .bool false, IV w]) ?_ ?_
  · refine Wp.br (fun hlt => ?_) (fun hlt => ?_)
    · have hlt : ((0 : Nat) : Int) < left := hlt
      refine run ?_
      refine RegS.store (v := IV (left - 1)) (Blk.wr hb1 (j := 1) (by simp)) ?_
      have c2 := hset_chg H1 ⟨db, 1, none⟩ (IV (left - 1))
      have hb2 : Blk (hset H1 ⟨db, 1, none⟩ (IV (left - 1))) db 239 [s.val, IV (left - 1), .bool false, IV w] := Blk.set (j := 1) (v := IV (left - 1)) hb1
      refine run ?_
      exact midQ_n () subs ⟨Chg.trans (S := (· = db)) c1 c2, by rw [if_pos (by omega)]; exact hb2⟩
    · have hlt : ¬ ((0 : Nat) : Int) < left := hlt
      refine run ?_
      exact midQ_n () subs ⟨c1, by rw [if_neg (by omega)]; exact hb1⟩
  rintro _ A ⟨cA, bA⟩
  have mA := hmt cA
  have rA := mA.row
  have hl := mA.len
  have dA : Bytes A b data := RowF.chgN hd cA (Bytes.notB hd hb (by intro v hv x; simp only [List.mem_cons, List.not_mem_nil, or_false] at hv; rcases hv with rfl | rfl | rfl | rfl <;> simp [B8, Sl.val]))
  generalize (if 0 < left then left - 1 else left) = left' at bA e ⊢
  refine run ?_
  refine RegP.call (clone_ok b data A dA (by omega)) ?_
  rintro _ A1 ⟨c, rfl, oc, x1⟩
  refine ⟨.inl x1, ?_⟩
  have bA1 := bA.ext x1
  have mA1 := mA.ext x1
  have rA1 := mA1.row
  have mc : Mine A1 A.size c data := OwnR.mine oc
  have hcA : ∀ x, c.blk = some x → A.size ≤ x ∧ x < A1.size := fun x hx => mc.blk x hx
  obtain ⟨m2, c2⟩ := Mat.row' mA1 hn (mc.low (Nat.zero_le _)) (fun j x hj hx hx' => by have := (hcA x hx').1; have := ((mA.each j hj).blk x hx).2; omega) (fun x hx hx' => by have := (hcA x hx).1; have := (mA.arr.blk_ge hx').2; omega)
  have bA2 := bA1.chg c2 fun hx => (h.ownA _ hx).2 rfl
  have hwr := OwnR.wr mA1.arr (j := n) (by simp; omega)
  have rA2 := m2.row
  have lA2 : (ss.set n c).length = bl.length := by simp [hl]
  refine run ?_
  refine RegP.store hwr ?_ ?_
  · exact proms2
  generalize hset A1 (s.cell n) c.val = A2 at m2 c2 bA2 rA2 ⊢
  refine run ?_
  refine RegS.q (h := Rd.arith (r := IntKind.i64.wrap (w + 1)) rfl rfl rfl (.inl rfl)) ?_
  refine run ?_
  generalize IntKind.i64.wrap (w + 1) = w'
  refine RegS.store (v := IV w') (Blk.wr bA2 (j := 3) (by simp)) ?_
  have c3 := hset_chg A2 ⟨db, 3, none⟩ (IV w')
  have bA3 : Blk (hset A2 ⟨db, 3, none⟩ (IV w')) db 239 [s.val, IV left', .bool false, IV w'] := Blk.set (j := 3) (v := IV w') bA2
  generalize hset A2 ⟨db, 3, none⟩ (IV w') = A3 at c3 bA3 ⊢
  refine run ?_
  rw [e]
  have ownA : ∀ x, s.blk = some x → x < H.size := fun x hx => (h.mat.arr.blk_ge hx).2
  have zA := cA.size
  have z1 := x1.size
  have z2 := c2.size
  have z3 := c3.size
  have st1 : Step (· = k) H O A1 O := (hst cA).trans (x1.step (hst cA).wf)
  have st2 : Step (· = k) A1 O A2 O := c2.step st1.wf fun x _ hx => (h.ownA x hx).1
  have st3 : Step (· = k) A2 O A3 O := c3.step st2.wf fun x _ hx => by subst hx; exact h.own
  have st := (st1.trans st2).trans st3
  have hcl : ∀ x, c.blk = some x → H.size ≤ x ∧ x < A3.size := fun x hx => by have := hcA x hx; omega
  refine ret1 ⟨O.give (fun x => c.blk = some x) k, st.give hcl, ⟨s, ss.set n c, w', bA3, ?_, ?_, ?_, ?_⟩, rfl⟩
  · exact m2.chg' c3 (fun x hx => (h.ownA x hx).2) fun j x hj hx => by
      rw [List.length_set] at hj
      rw [getD_setL (by omega)] at hx
      split at hx
      · exact fun e => by have := hcA x hx; have := h.blk.lt; simp only at e; omega
      · exact (h.ownR j hj x hx).2
  · rw [Ow.give_neg fun hx => by have := hcl db hx; have := h.blk.lt; omega]; exact h.own
  · intro x hx
    refine ⟨?_, (h.ownA x hx).2⟩
    rw [Ow.give_neg fun hx' => by have := hcl x hx'; have := ownA x hx; omega]; exact (h.ownA x hx).1
  · intro j hj x hx
    simp only [Bool.false_eq_true, if_false, List.length_set] at hj
    rw [getD_setL (by omega)] at hx
    split at hx
    · exact ⟨Ow.give_pos hx, by have := hcl x hx; have := h.blk.lt; omega⟩
    · refine ⟨?_, (h.ownR j hj x hx).2⟩
      rw [Ow.give_neg fun hx' => by have := hcl x hx'; have := ((h.mat.each j hj).blk x hx).2; omega]; exact (h.ownR j hj x hx).1
end
end Go.Proofs.YtaikdcnifijcoaaGreat
