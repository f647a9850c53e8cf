/-
  The walks of package slot, on: the power comes; bytes are kept.
-/
import Derived.Test.YtaikdcnifijcoaaGreatQ19
set_option linter.unusedVariables false
set_option linter.unusedSimpArgs false
namespace Go.Proofs.YtaikdcnifijcoaaGreat
open Go Go.Vc Go.Gf
theorem Blk.two0 {H : Heap} {g : Nat} {b : List UInt8} (n : Nat) (k : Blk H g 5 (List.replicate 32 (Value.int .u8 0))) (hb : b.length ≤ 32) : Blk (hsets H g 0 (b.map B8)) g 5 ((b ++ List.replicate (32 - b.length) 0).map B8) := by
  have := Blk.sets (b.map B8) 0 k
  rw [puts_zero (by simpa using hb)] at this
  rw [List.map_append, List.map_replicate]
  rw [List.length_map, List.drop_replicate] at this
  exact this
theorem piece_take {b : List UInt8} {k : Nat} : (b.drop (k * 32)).take 32 ++ List.replicate (32 - ((b.drop (k * 32)).take 32).length) 0 = pieceB b k := by
  have hl : ((b.drop (k * 32)).take 32).length ≤ 32 := by rw [List.length_take]; omega
  refine ext0 (by rw [List.length_append, List.length_replicate, pieceB_length]; omega) fun i hi => ?_
  rw [List.length_append, List.length_replicate] at hi
  rw [pieceB, mk_getD, if_pos (by omega), getD_append]
  split
  · rename_i h
    rw [List.length_take, List.length_drop] at h
    simp only [List.getD_eq_getElem?_getD, List.getElem?_take, List.getElem?_drop]
    rw [if_pos (by omega), Nat.mul_comm]
  · rename_i h
    rw [List.length_take, List.length_drop] at h
    rw [getD_ge (l := b) (by omega)]
    simp only [List.getD_eq_getElem?_getD, List.getElem?_replicate]
    split <;> rfl
theorem spieces_ok (s : Sl) (H : Heap) : CallsH Tryz.prog 243 [s.val] H fun v H' => v = .func (.func 268) #[] #[.pointer (some ⟨H.size, 0, none⟩)] ∧ Box H' H.size 36 s.val ∧ Ext H H' := by
  refine CallsH.enter h243 Tryz.func243 rfl rfl rfl (by decide) fun u => go ?_
  refine RegS.box (fun H1 e1 z1 b1 => ?_)
  have c1 : Box H1 H.size 36 s.val := ⟨b1⟩
  refine run ?_
  exact ret1 ⟨rfl, c1, e1⟩
set_option maxHeartbeats 2000000 in
theorem pieces1_it (s : Sl) (b : List UInt8) (c : Nat) (hl : b.length ≤ 1000000) :
    IterW Tryz.prog 268 [.pointer (some ⟨c, 0, none⟩)] (takesN b.length) (fun k A vs => ∃ p : Sl, vs = [I64 k, p.val] ∧ Bytes A p (pieceB b k)) (fun A => Box A c 36 s.val ∧ Bytes A s b) := by
  intro y J Jx H hpre hJ hJx hY h0
  obtain ⟨hc, hbs⟩ := hpre _ _ h0
  refine CallsH.enter h268 Tryz.func268 rfl rfl rfl (by decide) fun u => run ?_
  refine RegS.call (takes_ok b.length H (by omega)) ?_
  rintro _ _ ⟨rfl, rfl⟩
  refine run ?_
  refine Wp.loop (ι := Nat) (fun k => [(0, .func (.yield y) #[] #[]), (1, .pointer (some ⟨c, 0, none⟩)), (7, I64 (takesN b.length)), (8, I64 k)]) (fun k A => k ≤ takesN b.length ∧ J k A) (fun k => takesN b.length - k) 0 subs ⟨Nat.zero_le _, h0⟩ ?_
  rintro k A ⟨hk, hJk⟩
  have hk : k ≤ takesN b.length := hk
  refine run ?_
  refine Wp.br (fun hlt => ?_) (fun hlt => ?_)
  case refine_2 =>
    have hlt : ¬ (k : Int) < (takesN b.length : Int) := hlt
    have : k = takesN b.length := by omega
    subst this
    refine run ?_
    exact ret0n (.inl hJk)
  have hlt : (k : Int) < (takesN b.length : Int) := hlt
  have hkb : k * 32 ≤ b.length := by unfold takesN at hlt; omega
  refine run ?_
  refine RegS.makeSlice (n := 32) ?_ ?_ (fun A1 o1 y1 w1 => ?_)
  · omega
  · omega
  have hJ1 := hJ _ _ _ hJk y1
  obtain ⟨hc1, hb1⟩ := hpre _ _ hJ1
  have k1 := OwnR.toBlk o1
  have hsl := hb1.len
  have hsc := s.le
  have hh : k * 32 ≤ s.len ∧ s.len ≤ s.cap ∧ s.cap ≤ s.cap := by omega
  refine run ?_
  refine RegS.cut (k * 32) s.len s.cap (.inr ⟨_, _, rfl, rfl⟩) (.inl ⟨rfl, rfl, rfl⟩) (.inl ⟨rfl, rfl⟩) hh ?_
  have hcut := hb1.cut hh (by omega)
  rw [hsl, List.take_length] at hcut
  rw [hsl]
  refine run ?_
  refine RegS.copyM k1 (by rw [List.length_replicate]) hcut.row (fun v hv => by obtain ⟨b, _, rfl⟩ := List.mem_map.1 hv; rfl) ?_
  rw [← List.map_take]
  have kc := hsets_chg A.size (((b.drop (k * 32)).take 32).map B8) 0 A1
  have k2 := Blk.two0 0 k1 (b := (b.drop (k * 32)).take 32) (by rw [List.length_take]; omega)
  rw [piece_take] at k2
  generalize hsets A1 A.size 0 (((b.drop (k * 32)).take 32).map B8) = A2 at kc k2 ⊢
  have x2 : Ext A A2 := y1.then kc fun x hx => by omega
  have hp : Bytes A2 (Sl.fresh A.size 32) (pieceB b k) := OwnR.rowF (e := 5) (base := A.size) (OwnR.ofBlk k2 (Nat.le_refl _) (by rw [List.length_map, pieceB_length]) (by simp only [maxLen]; omega))
  have hJ2 := hJ _ _ _ hJk x2
  refine run ?_
  refine RegS.yieldC (hY k A2 _ (by omega) hJ2 ⟨_, rfl, hp⟩) ?_
  rintro v A3 (⟨rfl, hJ3⟩ | ⟨rfl, hJ3⟩) <;> refine run ?_
  · exact roundQ_n (k + 1) subs ⟨by omega, hJ3⟩ (by omega)
  · exact ret0 (.inr hJ3)
theorem Step.keep {S : Nat → Prop} {H A A' : Heap} {O O' : Ow} {B : Nat} (st : Step S H O A O') (k : Keep B A A') (hB : H.size ≤ B) : Step S H O A' O' := ⟨k.turn st.chg hB, st.agr, ⟨fun x hx => st.wf.new x (Nat.le_trans k.size hx)⟩⟩
theorem DiskAt.keep {A A' : Heap} {O : Ow} {B k db : Nat} {bl : List (List UInt8)} {p : Pw} (h : DiskAt A O k db bl p) (kk : Keep B A A') : DiskAt A' O k db bl p := by
  obtain ⟨s, ss, w, h⟩ := h
  exact ⟨s, ss, w, h.blk.keep kk, h.mat.keep kk, h.own, h.ownA, h.ownR⟩
/-- What no disk has may be given away. -/
theorem DiskAt.drop {A : Heap} {O : Ow} {k db D : Nat} {bl : List (List UInt8)} {p : Pw} {o : Obj} (h : DiskAt A O k db bl p) (hD : A[D]? = some o) (ho : ∀ c e z, o ≠ .cells c e z) (h32 : ∀ b ∈ bl, b.length = 32) : DiskAt A (O.give (· = D) 0) k db bl p := by
  obtain ⟨s, ss, w, h⟩ := h
  have h1 : db ≠ D := fun e => by
    subst e
    have := h.blk.at_
    rw [hD] at this
    exact ho _ _ _ (Option.some.inj this)
  refine ⟨s, ss, w, h.blk, h.mat, by rw [Ow.give_neg (by exact h1)]; exact h.own, fun b hb => ⟨?_, (h.ownA b hb).2⟩, fun j hj b hb => ⟨?_, (h.ownR j hj b hb).2⟩⟩
  · rw [Ow.give_neg]
    · exact (h.ownA b hb).1
    · intro e
      subst e
      rcases h.mat.arr.2 with h2 | ⟨g, cur, ha, hg, hh, _⟩
      · simp [Sl.blk, h2] at hb
      · simp [Sl.blk, ha] at hb
        subst hb
        rw [hD] at hh
        exact ho _ _ _ (Option.some.inj hh)
  · rw [Ow.give_neg]
    · exact (h.ownR j hj b hb).1
    · intro e
      subst e
      have hl : (bl.getD j []).length = 32 := h32 _ (by rw [List.getD_eq_getElem?_getD, List.getElem?_eq_getElem hj]; exact List.getElem_mem _)
      have hc := (h.mat.bytes hj).cell 0 (by omega)
      have hk := Sl.cell_blk (j := 0) hb
      unfold hcell at hc
      rw [hk, hD] at hc
      cases o with
      | cells c e z => exact ho _ _ _ rfl
      | _ => simp at hc
/-- How a Save stands. -/
structure SaveI (H : Heap) (O : Ow) (k db z : Nat) (bl : List (List UInt8)) (p : Pw) (A : Heap) (O' : Ow) : Prop where
  st : Step (· = k) H O A O'
  dk : DiskAt A O' k db bl p
  lo : ∀ x, H.size ≤ x → x < z + 2 → O' x ≠ k
  sz : z ≤ A.size
section
variable {H A A2 : Heap} {O O' O2 : Ow} {k db z : Nat} {bl bl2 : List (List UInt8)} {p p2 : Pw}
theorem SaveI.next (h : SaveI H O k db z bl p A O') (hz : z + 2 ≤ A.size) (st : Step (· = k) A O' A2 O2) (d : DiskAt A2 O2 k db bl2 p2) : SaveI H O k db z bl2 p2 A2 O2 :=
  ⟨h.st.trans st, d, fun x h1 h2 => by rw [st.agr x (Nat.lt_of_lt_of_le h2 hz)]; exact h.lo x h1 h2, Nat.le_trans h.sz st.size⟩
theorem SaveI.same (h : SaveI H O k db z bl p A O') (hz : z + 2 ≤ A.size) (st : Step (· = k) A O' A2 O2) {x : Nat} (h1 : H.size ≤ x) (h2 : x < z + 2) : A2[x]? = A[x]? := st.chg.get x (Nat.lt_of_lt_of_le h2 hz) (h.lo x h1 h2)
theorem SaveI.ext (h : SaveI H O k db z bl p A O') (e : Ext A A2) : SaveI H O k db z bl p A2 O' := ⟨h.st.trans (e.step h.st.wf), h.dk.ext h.st.wf e, h.lo, Nat.le_trans h.sz e.size⟩
theorem SaveI.keep {B : Nat} (h : SaveI H O k db z bl p A O') (kk : Keep B A A2) (hB : H.size ≤ B) : SaveI H O k db z bl p A2 O' := ⟨Step.keep h.st kk hB, h.dk.keep kk, h.lo, Nat.le_trans h.sz kk.size⟩
/-- A new block of one's own is written. -/
theorem SaveI.local (h : SaveI H O k db z bl p A O') {r : Nat} (c : Chg (· = r) A A2) (h1 : H.size ≤ r) (h2 : O' r ≠ k) : SaveI H O k db z bl p A2 O' := by
  have cA : Step (fun x => x = O' r) A O' A2 O' := c.step h.st.wf fun x _ hx => by subst hx; rfl
  refine ⟨⟨⟨Nat.le_trans h.st.size c.size, fun b hb hs => (c.get b (Nat.lt_of_lt_of_le hb h.st.size) (by omega)).trans (h.st.chg.get b hb hs)⟩, h.st.agr, cA.wf⟩, h.dk.step cA (fun e => h2 e.symm), h.lo, Nat.le_trans h.sz c.size⟩
end
/-- The locals of a Save. -/
structure SaveL (A : Heap) (y rs sb rbx obx pbx : Nat) (b : Sl) (side n : Nat) (e : Int) : Prop where
  s : Box A y 125 (ptrD sb)
  res : Box A rs 35 (IV e)
  r : Blk A rbx 192 [I64 side, I64 n]
  o : Box A obx 3 (I64 (1 - side))
  p : Box A pbx 36 b.val
theorem SaveL.same {A A2 : Heap} {y rs sb rbx obx pbx : Nat} {b : Sl} {side n : Nat} {e : Int} (h : SaveL A y rs sb rbx obx pbx b side n e) (hs : ∀ x, x = y ∨ x = rs ∨ x = rbx ∨ x = obx ∨ x = pbx → A2[x]? = A[x]?) : SaveL A2 y rs sb rbx obx pbx b side n e :=
  ⟨⟨(hs _ (.inl rfl)).trans h.s.at_⟩, ⟨(hs _ (.inr (.inl rfl))).trans h.res.at_⟩, ⟨(hs _ (.inr (.inr (.inl rfl)))).trans h.r.at_⟩, ⟨(hs _ (.inr (.inr (.inr (.inl rfl))))).trans h.o.at_⟩, ⟨(hs _ (.inr (.inr (.inr (.inr rfl))))).trans h.p.at_⟩⟩
theorem SaveL.ext {A A2 : Heap} {y rs sb rbx obx pbx : Nat} {b : Sl} {side n : Nat} {e : Int} (h : SaveL A y rs sb rbx obx pbx b side n e) (x : Ext A A2) : SaveL A2 y rs sb rbx obx pbx b side n e := ⟨h.s.ext x, h.res.ext x, h.r.ext x, h.o.ext x, h.p.ext x⟩
theorem SaveL.keep {B : Nat} {A A2 : Heap} {y rs sb rbx obx pbx : Nat} {b : Sl} {side n : Nat} {e : Int} (h : SaveL A y rs sb rbx obx pbx b side n e) (x : Keep B A A2) : SaveL A2 y rs sb rbx obx pbx b side n e := ⟨h.s.keep x, h.res.keep x, h.r.keep x, h.o.keep x, h.p.keep x⟩
end Go.Proofs.YtaikdcnifijcoaaGreat
