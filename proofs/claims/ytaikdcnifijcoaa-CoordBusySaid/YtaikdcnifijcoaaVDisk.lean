/-
  The walks of package disk.
-/
import Derived.Test.YtaikdcnifijcoaaVStP
import Derived.Test.YtaikdcnifijcoaaVcGo
import Derived.Test.YtaikdcnifijcoaaVGf2
set_option linter.unusedVariables false
set_option linter.unusedSimpArgs false
namespace Go.Proofs.Ytaikdcnifijcoaa
open Go Go.Vc Go.Gf

abbrev ptrD (b : Nat) : Value := .pointer (some ⟨b, 0, none⟩)
theorem Bytes.notB {H : Heap} {s : Sl} {l : List UInt8} {b : Nat} {T : TypeId} {cs : List Value} (h : Bytes H s l) (k : Blk H b T cs) (hv : ∀ v ∈ cs, ∀ x, v ≠ B8 x) : 0 < s.len → ∀ c, s.blk = some c → c < H.size ∧ ¬ c = b := fun hp c hc => by
  refine ⟨RowF.lt h hp c hc, fun e => ?_⟩
  subst e
  have h0 := h.cell 0 (by have := h.len; omega)
  have hb := Sl.cell_blk (j := 0) hc
  unfold hcell at h0
  rw [hb, k.at_] at h0
  simp only at h0
  split at h0
  · exact absurd h0 (by simp)
  · have hm := List.mem_of_getElem? (by simpa using h0)
    exact hv _ hm _ rfl
/-- A disk, all of it the owner's. -/
structure DiskIn (H : Heap) (O : Ow) (k db : Nat) (bl : List (List UInt8)) (p : Pw) (s : Sl) (ss : List Sl) (w : Int) : Prop where
  blk : Blk H db 131 [s.val, IV p.left, .bool p.gone, IV w]
  mat : Mat H 0 24 s ss bl
  own : O db = k
  ownA : ∀ b, s.blk = some b → O b = k ∧ b ≠ db
  ownR : ∀ j, j < bl.length → ∀ b, (ss.getD j Sl.nil).blk = some b → O b = k ∧ b ≠ db
def DiskAt (H : Heap) (O : Ow) (k db : Nat) (bl : List (List UInt8)) (p : Pw) : Prop := ∃ s ss w, DiskIn H O k db bl p s ss w
theorem DiskIn.step {S : Nat → Prop} {H H' : Heap} {O O' : Ow} {k db : Nat} {bl : List (List UInt8)} {p : Pw} {s : Sl} {ss : List Sl} {w : Int} (h : DiskIn H O k db bl p s ss w) (st : Step S H O H' O') (hk : ¬ S k) : DiskIn H' O' k db bl p s ss w :=
  ⟨h.blk.step st (by rw [h.own]; exact hk), h.mat.chg' st.chg (fun b hb => by rw [(h.ownA b hb).1]; exact hk) (fun j b hj hb => by rw [(h.ownR j hj b hb).1]; exact hk), st.own h.blk.lt h.own,
    fun b hb => ⟨st.own (h.mat.arr.blk_ge hb).2 (h.ownA b hb).1, (h.ownA b hb).2⟩, fun j hj b hb => ⟨st.own ((h.mat.each j hj).blk b hb).2 (h.ownR j hj b hb).1, (h.ownR j hj b hb).2⟩⟩
theorem DiskAt.step {S : Nat → Prop} {H H' : Heap} {O O' : Ow} {k db : Nat} {bl : List (List UInt8)} {p : Pw} (h : DiskAt H O k db bl p) (st : Step S H O H' O') (hk : ¬ S k) : DiskAt H' O' k db bl p := by
  obtain ⟨s, ss, w, h⟩ := h
  exact ⟨s, ss, w, h.step st hk⟩
theorem DiskAt.ext {H H' : Heap} {O : Ow} {k db : Nat} {bl : List (List UInt8)} {p : Pw} (h : DiskAt H O k db bl p) (w : WfO H O) (e : Ext H H') : DiskAt H' O k db bl p := h.step (S := fun _ => False) (e.step w) id
section
variable {H : Heap} {O : Ow} {k db : Nat} {bl : List (List UInt8)} {p : Pw}
theorem dthere_ok (n : Nat) (h : DiskAt H O k db bl p) : CallsH Try.prog 68 [ptrD db, I64 n] H fun v H' => v = .bool (dec ((n : Int) < (bl.length : Nat))) ∧ H = H' := by
  obtain ⟨s, ss, w, h⟩ := h
  have hb := h.blk
  have hr := h.mat.row
  have hl := h.mat.len
  refine CallsH.enter h68 Try.func68 rfl rfl rfl (by decide) fun u => run ?_
  rw [hl]
  refine run ?_
  exact ret1 ⟨rfl, rfl⟩
theorem read_ok (n : Nat) (hn : n < bl.length) (h32 : ∀ b ∈ bl, b.length = 32) (h : DiskAt H O k db bl p) : CallsH Try.prog 42 [ptrD db, I64 n] H fun v H' => ∃ s : Sl, v = .tuple #[s.val, .bool true] ∧ OwnF B8 H' H.size 5 s (bl.getD n []) ∧ Ext H H' := by
  refine CallsH.enter h42 Try.func42 rfl rfl rfl (by decide) fun u => run ?_
  refine RegS.call (dthere_ok n h) ?_
  rintro _ _ ⟨rfl, rfl⟩
  obtain ⟨s, ss, w, h⟩ := h
  have hb := h.blk
  have hr := h.mat.row
  have hl := h.mat.len
  have hby := h.mat.bytes hn
  have hlen : (bl.getD n []).length = 32 := h32 _ (by rw [List.getD_eq_getElem?_getD, List.getElem?_eq_getElem hn]; exact List.getElem_mem _)
  refine run ?_
  refine RegS.call (clone_ok (ss.getD n Sl.nil) (bl.getD n []) H hby (by omega)) ?_
  rintro _ H1 ⟨c, rfl, o1, x1⟩
  refine run ?_
  exact ret2 ⟨c, rfl, o1, x1⟩
theorem dnew_ok (n : Nat) (hw : WfO H O) (hn : n ≤ 2048) (hk : k ≠ 0) : CallsH Try.prog 56 [I64 n] H fun v H' => ∃ db O', v = ptrD db ∧ Step (fun _ => False) H O H' O' ∧ DiskAt H' O' k db (List.replicate n zeroB) pw0 ∧ H.size ≤ db := by
  refine CallsH.enter h56 Try.func56 rfl rfl rfl (by decide) fun u => run ?_
  refine RegS.boxA fun H1 x1 z1 b1 => ?_
  have b1 : Blk H1 H.size 131 [Sl.nil.val, IV (-1), .bool false, IV 0] := b1
  refine run ?_
  rw [show min (max n 0) 2048 = n by omega]
  refine Wp.loop (ι := Nat × Sl × List Sl) (fun i => [(3, ptrD H.size), (8, I64 n), (9, I64 i.1)]) (fun i A => i.1 ≤ n ∧ Blk A H.size 131 [i.2.1.val, IV (-1), .bool false, IV 0] ∧ Mat A H1.size 24 i.2.1 i.2.2 (List.replicate i.1 zeroB) ∧ Ext H A ∧ H1.size ≤ A.size) (fun i => n - i.1) (0, Sl.nil, []) subs ⟨Nat.zero_le _, b1, Mat.nil _ _ _, x1, Nat.le_refl _⟩ ?_
  rintro ⟨i, t, ss⟩ A ⟨hi, bA, mA, xA, zA⟩
  have hi : i ≤ n := hi
  have bA : Blk A H.size 131 [t.val, IV (-1), .bool false, IV 0] := bA
  have mA : Mat A H1.size 24 t ss (List.replicate i zeroB) := mA
  have hml := mA.len
  rw [List.length_replicate] at hml
  have hlt := bA.lt
  show Wp _ _ _ [(3, ptrD H.size), (8, I64 n), (9, I64 i)] _ _
  refine run ?_
  refine Wp.br (fun hlt2 => ?_) (fun hlt2 => ?_)
  case refine_2 =>
    have hlt2 : ¬ (i : Int) < (n : Int) := hlt2
    have : i = n := by omega
    subst this
    refine run ?_
    refine ret1 ⟨H.size, O.give (fun x => H.size ≤ x ∧ x < A.size) k, rfl, (xA.step hw).give fun x hx => hx, ⟨t, ss, 0, bA, mA.low (Nat.zero_le _), Ow.give_pos ⟨Nat.le_refl _, hlt⟩, fun x hx => ?_, fun j hj x hx => ?_⟩, Nat.le_refl _⟩
    · have := mA.arr.blk_ge hx
      exact ⟨Ow.give_pos ⟨by omega, this.2⟩, by omega⟩
    · have := (mA.each j hj).blk x hx
      exact ⟨Ow.give_pos ⟨by omega, this.2⟩, by omega⟩
  have hlt2 : (i : Int) < (n : Int) := hlt2
  refine run ?_
  refine RegP.makeSlice (n := 32) ?_ ?_ (fun A1 o1 y1 w1 => ?_)
  · omega
  · omega
  have o1' : OwnF B8 A1 A.size 5 (Sl.fresh A.size 32) zeroB := o1
  have bA1 := bA.ext y1
  refine run ?_
  refine RegP.buildSlice fun A2 o2 y2 w2 => ?_
  have bA2 := bA1.ext y2
  have r2 : RowF Sl.val Sl.nil A2 (Sl.fresh A1.size 1) [Sl.fresh A.size 32] := OwnR.rowF (f := Sl.val) (l := [Sl.fresh A.size 32]) o2
  have mA2 := mA.ext (y1.trans y2)
  refine run ?_
  refine RegP.append (f := Sl.val) mA2.arr r2 (fun _ => rfl) (by omega) ?_ ?_ ?_
  · simp only [List.length_singleton]; omega
  · simp only [List.length_singleton]; omega
  intro t' A3 o3 c3 b3
  have bA3 : Blk A3 H.size 131 [t.val, IV (-1), .bool false, IV 0] := bA2.chg c3 fun hx => by have := (mA2.arr.blk_ge hx).1; omega
  have hm3 := Mat.app (S := fun _ => False) (l := zeroB) mA2 ((OwnR.mine (o1'.ext y2)).low (by omega)) (fun j x hj hx hx' => by have := ((mA.each j hj).blk x hx).2; simp [Sl.blk, Sl.fresh] at hx'; omega) (fun x hx hx' => by have := (mA.arr.blk_ge hx').2; simp [Sl.blk, Sl.fresh] at hx; omega) o3 c3 b3
  refine ⟨.inr proms2, ?_⟩
  refine run ?_
  refine RegP.store (v := t'.val) (Blk.wr bA3 (j := 0) (by simp)) ?_ ?_
  · exact proms2
  have c4 := hset_chg A3 ⟨H.size, 0, none⟩ t'.val
  have bA4 : Blk (hset A3 ⟨H.size, 0, none⟩ t'.val) H.size 131 [t'.val, IV (-1), .bool false, IV 0] := Blk.set (j := 0) (v := t'.val) bA3
  have z12 := y1.size
  have z22 := y2.size
  have z3 := c3.size
  have hm4 := hm3.chg c4 fun x hx _ hx' => by simp only at hx'; omega
  rw [← List.replicate_succ'] at hm4
  have x4 : Ext H (hset A3 ⟨H.size, 0, none⟩ t'.val) := ((xA.trans (y1.trans y2)).then c3 fun x hx => by have := (mA2.arr.blk_ge hx).1; omega).then c4 fun x hx => by simp only at hx; omega
  have z4 := c4.size
  generalize hset A3 ⟨H.size, 0, none⟩ t'.val = A4 at bA4 hm4 x4 z4 ⊢
  refine run ?_
  exact roundQ_n (i + 1, t', ss ++ [Sl.fresh A.size 32]) subs ⟨by simp only; omega, bA4, hm4, x4, by omega⟩ (by simp only; omega)
theorem ddown_ok (h : DiskAt H O k db bl p) : CallsH Try.prog 57 [ptrD db] H fun v H' => v = .bool p.gone ∧ H = H' := by
  obtain ⟨s, ss, w, h⟩ := h
  have hb := h.blk
  refine CallsH.enter h57 Try.func57 rfl rfl rfl (by decide) fun u => run ?_
  exact ret1 ⟨rfl, rfl⟩
/-- Another row in a row's place. -/
theorem Mat.row' {H : Heap} {base : Nat} {e : TypeId} {t s : Sl} {ss : List Sl} {m : List (List UInt8)} {l : List UInt8} (h : Mat H base e t ss m) {i : Nat} (hi : i < m.length) (hs : Mine H base s l) (hsep : ∀ k b, k < m.length → (ss.getD k Sl.nil).blk = some b → s.blk ≠ some b) (hst : ∀ b, s.blk = some b → t.blk ≠ some b) :
    Mat (hset H (t.cell i) s.val) base e t (ss.set i s) (m.set i l) ∧ Chg (fun b => t.blk = some b) H (hset H (t.cell i) s.val) := by
  have hl := h.len
  obtain ⟨o1, c1⟩ := OwnR.set h.arr (j := i) (by simp; omega) s.val
  refine ⟨⟨by rw [OwnF, List.map_set]; exact o1, by simp [hl], fun k hk => ?_, fun a b ha hb => ?_, fun k hk b => ?_⟩, c1⟩
  · rw [List.length_set] at hk
    rw [getD_setL (by omega), getD_setL hi]
    split
    · exact hs.chg c1 fun b hb hb' => hst b hb hb'
    · exact (h.each k hk).chg c1 fun b hb hb' => h.apart k hk b hb hb'
  · rw [List.length_set] at ha hb
    intro hab x
    rw [getD_setL (by omega), getD_setL (by omega)]
    split <;> split <;> intro hx
    · omega
    · exact fun hx' => hsep b x hb hx' hx
    · exact hsep a x ha hx
    · exact h.diff a b ha hb hab x hx
  · rw [List.length_set] at hk
    rw [getD_setL (by omega)]
    split
    · exact hst b
    · exact h.apart k hk b
set_option maxHeartbeats 4000000 in
theorem write_ok (n : Nat) (b : Sl) (data : List UInt8) (hn : n < bl.length) (hd : Bytes H b data) (h32 : data.length = 32) (hw : WfO H O) (h : DiskAt H O k db bl p) (hp : -1 ≤ p.left ∧ p.left ≤ 9223372036854775807) (hk : k ≠ 0) :
    CallsH Try.prog 81 [ptrD db, I64 n, b.val] H fun v H' => ∃ O', Step (· = k) H O H' O' ∧ DiskAt H' O' k db (if p.wr.gone = true then bl else bl.set n data) p.wr ∧ v = I64 (if p.wr.gone = true then 3 else 0) := by
  refine CallsH.enter h81 Try.func81 rfl rfl rfl (by decide) fun u => run ?_
  refine RegS.call (dthere_ok n h) ?_
  rintro _ _ ⟨rfl, rfl⟩
  obtain ⟨s, ss, w, h⟩ := h
  obtain ⟨left, gone⟩ := p
  have hb : Blk H db 131 [s.val, IV left, .bool gone, IV w] := h.blk
  simp only at hp
  refine run ?_
  have hmt : ∀ {A : Heap}, Chg (· = db) H A → Mat A 0 24 s ss bl := fun c => h.mat.chg' c (fun b hb' => (h.ownA b hb').2) (fun j b hj hb' => (h.ownR j hj b hb').2)
  have hst : ∀ {A : Heap}, Chg (· = db) H A → Step (· = k) H O A O := fun c => c.step hw fun x _ hx => by subst hx; exact h.own
  cases gone with
  | true =>
    have e : (⟨left, true⟩ : Pw).wr = ⟨left, true⟩ := Pw.wr_gone rfl
    refine run ?_
    refine RegS.store (v := .bool true) (Blk.wr hb (j := 2) (by simp)) ?_
    have c1 := hset_chg H ⟨db, 2, none⟩ (.bool true)
    have hb1 : Blk (hset H ⟨db, 2, none⟩ (.bool true)) db 131 [s.val, IV left, .bool true, IV w] := Blk.set (j := 2) (v := .bool true) hb
    refine run ?_
    rw [e]
    exact ret1 ⟨O, hst c1, ⟨s, ss, w, hb1, hmt c1, h.own, h.ownA, h.ownR⟩, rfl⟩
  | false =>
  by_cases h0 : left = 0
  · subst h0
    have e : (⟨0, false⟩ : Pw).wr = ⟨0, true⟩ := rfl
    refine run ?_
    refine RegS.store (v := .bool true) (Blk.wr hb (j := 2) (by simp)) ?_ rfl rfl (by rw [dec_pos (show (0 : Int) = ((0 : Nat) : Int) by omega)]; rfl)
    have c1 := hset_chg H ⟨db, 2, none⟩ (.bool true)
    have hb1 : Blk (hset H ⟨db, 2, none⟩ (.bool true)) db 131 [s.val, IV 0, .bool true, IV w] := Blk.set (j := 2) (v := .bool true) hb
    refine run ?_
    rw [e]
    exact ret1 ⟨O, hst c1, ⟨s, ss, w, hb1, hmt c1, h.own, h.ownA, h.ownR⟩, rfl⟩
  have e : (⟨left, false⟩ : Pw).wr = ⟨if 0 < left then left - 1 else left, false⟩ := by rw [Pw.wr, if_neg (by simp [h0])]
  refine run ?_
  refine RegS.store (v := .bool false) (Blk.wr hb (j := 2) (by simp)) ?_ rfl rfl (by rw [dec_neg (show ¬ left = ((0 : Nat) : Int) by omega)]; rfl)
  have c1 := hset_chg H ⟨db, 2, none⟩ (.bool false)
  have hb1 : Blk (hset H ⟨db, 2, none⟩ (.bool false)) db 131 [s.val, IV left, .bool false, IV w] := Blk.set (j := 2) (v := .bool false) hb
  generalize hset H ⟨db, 2, none⟩ (.bool false) = H1 at c1 hb1 ⊢
  refine run ?_
  refine Wp.mid (ι := Unit) (fun _ => [(0, ptrD db), (1, I64 n), (2, b.val)]) (fun _ A => Chg (· = db) H A ∧ Blk A db 131 [s.val, IV (if 0 < left then left - 1 else left), .bool false, IV w]) ?_ ?_
  · refine Wp.br (fun hlt => ?_) (fun hlt => ?_)
    · have hlt : ((0 : Nat) : Int) < left := hlt
      refine run ?_
      refine RegS.store (v := IV (left - 1)) (Blk.wr hb1 (j := 1) (by simp)) ?_
      have c2 := hset_chg H1 ⟨db, 1, none⟩ (IV (left - 1))
      have hb2 : Blk (hset H1 ⟨db, 1, none⟩ (IV (left - 1))) db 131 [s.val, IV (left - 1), .bool false, IV w] := Blk.set (j := 1) (v := IV (left - 1)) hb1
      refine run ?_
      exact midQ_n () subs ⟨Chg.trans (S := (· = db)) c1 c2, by rw [if_pos (by omega)]; exact hb2⟩
    · have hlt : ¬ ((0 : Nat) : Int) < left := hlt
      refine run ?_
      exact midQ_n () subs ⟨c1, by rw [if_neg (by omega)]; exact hb1⟩
  rintro _ A ⟨cA, bA⟩
  have mA := hmt cA
  have rA := mA.row
  have hl := mA.len
  have dA : Bytes A b data := RowF.chgN hd cA (Bytes.notB hd hb (by intro v hv x; simp only [List.mem_cons, List.not_mem_nil, or_false] at hv; rcases hv with rfl | rfl | rfl | rfl <;> simp [B8, Sl.val]))
  generalize (if 0 < left then left - 1 else left) = left' at bA e ⊢
  refine run ?_
  refine RegP.call (clone_ok b data A dA (by omega)) ?_
  rintro _ A1 ⟨c, rfl, oc, x1⟩
  refine ⟨.inl x1, ?_⟩
  have bA1 := bA.ext x1
  have mA1 := mA.ext x1
  have rA1 := mA1.row
  have mc : Mine A1 A.size c data := OwnR.mine oc
  have hcA : ∀ x, c.blk = some x → A.size ≤ x ∧ x < A1.size := fun x hx => mc.blk x hx
  obtain ⟨m2, c2⟩ := Mat.row' mA1 hn (mc.low (Nat.zero_le _)) (fun j x hj hx hx' => by have := (hcA x hx').1; have := ((mA.each j hj).blk x hx).2; omega) (fun x hx hx' => by have := (hcA x hx).1; have := (mA.arr.blk_ge hx').2; omega)
  have bA2 := bA1.chg c2 fun hx => (h.ownA _ hx).2 rfl
  have hwr := OwnR.wr mA1.arr (j := n) (by simp; omega)
  have rA2 := m2.row
  have lA2 : (ss.set n c).length = bl.length := by simp [hl]
  refine run ?_
  refine RegP.store hwr ?_ ?_
  · exact proms2
  generalize hset A1 (s.cell n) c.val = A2 at m2 c2 bA2 rA2 ⊢
  refine run ?_
  refine RegS.q (h := Rd.arith (r := IntKind.i64.wrap (w + 1)) rfl rfl rfl (.inl rfl)) ?_
  refine run ?_
  generalize IntKind.i64.wrap (w + 1) = w'
  refine RegS.store (v := IV w') (Blk.wr bA2 (j := 3) (by simp)) ?_
  have c3 := hset_chg A2 ⟨db, 3, none⟩ (IV w')
  have bA3 : Blk (hset A2 ⟨db, 3, none⟩ (IV w')) db 131 [s.val, IV left', .bool false, IV w'] := Blk.set (j := 3) (v := IV w') bA2
  generalize hset A2 ⟨db, 3, none⟩ (IV w') = A3 at c3 bA3 ⊢
  refine run ?_
  rw [e]
  have ownA : ∀ x, s.blk = some x → x < H.size := fun x hx => (h.mat.arr.blk_ge hx).2
  have zA := cA.size
  have z1 := x1.size
  have z2 := c2.size
  have z3 := c3.size
  have st1 : Step (· = k) H O A1 O := (hst cA).trans (x1.step (hst cA).wf)
  have st2 : Step (· = k) A1 O A2 O := c2.step st1.wf fun x _ hx => (h.ownA x hx).1
  have st3 : Step (· = k) A2 O A3 O := c3.step st2.wf fun x _ hx => by subst hx; exact h.own
  have st := (st1.trans st2).trans st3
  have hcl : ∀ x, c.blk = some x → H.size ≤ x ∧ x < A3.size := fun x hx => by have := hcA x hx; omega
  refine ret1 ⟨O.give (fun x => c.blk = some x) k, st.give hcl, ⟨s, ss.set n c, w', bA3, ?_, ?_, ?_, ?_⟩, rfl⟩
  · exact m2.chg' c3 (fun x hx => (h.ownA x hx).2) fun j x hj hx => by
      rw [List.length_set] at hj
      rw [getD_setL (by omega)] at hx
      split at hx
      · exact fun e => by have := hcA x hx; have := h.blk.lt; simp only at e; omega
      · exact (h.ownR j hj x hx).2
  · rw [Ow.give_neg fun hx => by have := hcl db hx; have := h.blk.lt; omega]; exact h.own
  · intro x hx
    refine ⟨?_, (h.ownA x hx).2⟩
    rw [Ow.give_neg fun hx' => by have := hcl x hx'; have := ownA x hx; omega]; exact (h.ownA x hx).1
  · intro j hj x hx
    simp only [Bool.false_eq_true, if_false, List.length_set] at hj
    rw [getD_setL (by omega)] at hx
    split at hx
    · exact ⟨Ow.give_pos hx, by have := hcl x hx; have := h.blk.lt; omega⟩
    · refine ⟨?_, (h.ownR j hj x hx).2⟩
      rw [Ow.give_neg fun hx' => by have := hcl x hx'; have := ((h.mat.each j hj).blk x hx).2; omega]; exact (h.ownR j hj x hx).1
end
end Go.Proofs.Ytaikdcnifijcoaa
