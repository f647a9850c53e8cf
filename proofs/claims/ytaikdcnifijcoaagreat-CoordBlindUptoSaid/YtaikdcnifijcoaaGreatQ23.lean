/-
  The walk of book.change.
-/
import Derived.Test.YtaikdcnifijcoaaGreatQ22
set_option linter.unusedVariables false
set_option linter.unusedSimpArgs false
namespace Go.Proofs.YtaikdcnifijcoaaGreat
open Go Go.Vc Go.Gf
variable {H : Heap} {O : Ow} {k1 k2 k3 bb sb N T K E R : Nat} {down : Bool} {s : Slt}
/-- A book under way: its slices are new, all apart, and somebody's. -/
structure BookOw (A : Heap) (OA : Ow) (lo k kb : Nat) (v : BookA) (c : BookS) : Prop where
  blk : Blk A kb 55 (bookC v c)
  own : OA kb = k
  ge : lo ≤ kb
  dir : OwnR A lo 79 2 c.dir (v.dir.flatMap hdV)
  up : OwnF Value.bool A lo 4 c.up v.up
  com : OwnF IV A lo 3 c.com v.commit
  od : ∀ b, c.dir.blk = some b → OA b = k ∧ b ≠ kb
  ou : ∀ b, c.up.blk = some b → OA b = k ∧ b ≠ kb
  oc : ∀ b, c.com.blk = some b → OA b = k ∧ b ≠ kb
  du : ∀ b, c.dir.blk = some b → c.up.blk ≠ some b ∧ c.com.blk ≠ some b
  uc : ∀ b, c.up.blk = some b → c.com.blk ≠ some b
theorem BookOw.inn {A : Heap} {OA : Ow} {lo k kb : Nat} {v : BookA} {c : BookS} (h : BookOw A OA lo k kb v c) : BookIn A v c := ⟨h.dir.hrow, OwnR.rowF h.up, OwnR.rowF h.com⟩
theorem BookOw.chg {S : Nat → Prop} {A B : Heap} {OA : Ow} {lo k kb : Nat} {v : BookA} {c : BookS} (h : BookOw A OA lo k kb v c) (st : Chg S A B) (hs : ∀ b, lo ≤ b → ¬ S b) : BookOw B OA lo k kb v c :=
  ⟨h.blk.chg st (hs _ h.ge), h.own, h.ge, OwnR.chg h.dir st fun b hb => hs b (OwnR.blk_ge h.dir hb).1, OwnR.chg h.up st fun b hb => hs b (OwnR.blk_ge h.up hb).1, OwnR.chg h.com st fun b hb => hs b (OwnR.blk_ge h.com hb).1, h.od, h.ou, h.oc, h.du, h.uc⟩
/-- Other numbers, the same slices. -/
theorem BookOw.turn {A B : Heap} {OA : Ow} {lo k kb : Nat} {v w : BookA} {c : BookS} (h : BookOw A OA lo k kb v c) (st : Chg (· = kb) A B) (hb : Blk B kb 55 (bookC w c)) (e1 : w.dir = v.dir) (e2 : w.up = v.up) (e3 : w.commit = v.commit) : BookOw B OA lo k kb w c :=
  ⟨hb, h.own, h.ge, by rw [e1]; exact OwnR.chg h.dir st fun b hb => (h.od b hb).2, by rw [e2]; exact OwnR.chg h.up st fun b hb => (h.ou b hb).2, by rw [e3]; exact OwnR.chg h.com st fun b hb => (h.oc b hb).2, h.od, h.ou, h.oc, h.du, h.uc⟩
theorem BookOw.stp {A B : Heap} {OA : Ow} {lo k kb : Nat} {v : BookA} {c : BookS} (h : BookOw A OA lo k kb v c) (hw : WfO A OA) (st : Chg (· = kb) A B) : Step (· = k) A OA B OA := st.step hw fun x _ e => by subst e; exact h.own
/-- What a change comes to: the slot, and the answer. -/
def bkChange (down : Bool) (s : Slt) (v' : BookA) (e : Nat) : Slt × Nat :=
  if (down || s.pw.gone) = true then (s, 3) else if e ≠ 0 then (s, e) else s.save (bookB v')
set_option maxHeartbeats 4000000 in
theorem change_ok {g : FuncId} {cap : List Value} (v v' : BookA) (e : Nat) (Q : Heap → Ow → Prop) (hn : N ≤ 255) (hw : WfO H O) (h : BkAt H O k1 k2 bb sb N T K E R down s) (hv : BkIs N s v)
    (hk3 : k3 ≠ 0 ∧ k3 ≠ k1 ∧ k3 ≠ k2) (hfit : e = 0 → BookFit N v')
    (hQ0 : (down || s.pw.gone) = true → Q H O) (hQ : ∀ A B OA OB, Step (· = k2) A OA B OB → Q A OA → Q B OB)
    (hf : ∀ (A : Heap) (OA : Ow) (kb : Nat) (c : BookS), Ext H A → Step (fun _ => False) H O A OA → BookOw A OA H.size k3 kb v c →
      CallsH Tryz.prog g (ptrD kb :: cap) A fun r A' => r = I64 e ∧ ∃ OB, Step (· = k3) A OA A' OB ∧ Q A' OB ∧ (e = 0 → ∃ c', Blk A' kb 55 (bookC v' c') ∧ BookIn A' v' c')) :
    CallsH Tryz.prog 127 [ptrD bb, .func (.func g) #[] cap.toArray] H fun r H' => r = I64 (bkChange down s v' e).2 ∧ ∃ O', Step (fun x => x = k2 ∨ x = k3) H O H' O' ∧ BkAt H' O' k1 k2 bb sb N T K E R down (bkChange down s v' e).1 ∧ Q H' O' := by
  have hb := h.blk
  refine CallsH.enter h127 Tryz.func127 rfl rfl rfl (by decide) fun u => run ?_
  refine RegS.call (bdown_ok h) ?_
  rintro _ _ ⟨rfl, rfl⟩
  refine run ?_
  refine Wp.brB (fun hd => ?_) (fun hd => ?_)
  · refine run ?_
    refine ret1 ⟨?_, O, (Ext.refl H).step hw, ?_, hQ0 hd⟩
    · rw [bkChange, if_pos hd]; rfl
    · rw [bkChange, if_pos hd]; exact h
  have ne := h.ne
  refine run ?_
  refine RegS.call (view_ok v hn hw h hv) ?_
  rintro _ H1 ⟨c, rfl, hi, x1, g1, g2, g3, nw⟩
  refine run ?_
  refine RegS.allocA fun H2 x2 z2 b2 => ?_
  have b2 : Blk H2 H1.size 55 [IV 0, IV 0, IV 0, Sl.nil.val, Sl.nil.val, Sl.nil.val] := b2
  refine run ?_
  refine RegS.storeA (us := bookC v c) b2 ?_
  have b3 : Blk (hsets H2 H1.size 0 (bookC v c)) H1.size 55 (bookC v c) := Blk.sets (bookC v c) 0 b2
  have x3 : Ext H1 (hsets H2 H1.size 0 (bookC v c)) := x2.then (hsets_chg H1.size (bookC v c) 0 H2) fun b hb => by omega
  generalize hsets H2 H1.size 0 (bookC v c) = H3 at b3 x3 ⊢
  have x03 := x1.trans x3
  have z1 := x1.size
  have z3 := x3.size
  have lt3 := b3.lt
  have nw3 : BookNew H H3 v c := nw.chg (x3.chg fun _ => False) (fun b _ _ h => h) (Nat.le_refl _)
  have hP : ∀ b, (b = H1.size ∨ c.dir.blk = some b ∨ c.up.blk = some b ∨ c.com.blk = some b) → H.size ≤ b ∧ b < H3.size := fun b hb => by
    rcases hb with rfl | hb | hb | hb
    · exact ⟨by omega, lt3⟩
    · exact OwnR.blk_ge nw3.dir hb
    · exact OwnR.blk_ge nw3.up hb
    · exact OwnR.blk_ge nw3.com hb
  have st3 : Step (fun _ => False) H O H3 (O.give (fun b => b = H1.size ∨ c.dir.blk = some b ∨ c.up.blk = some b ∨ c.com.blk = some b) k3) := (x03.step hw).give hP
  have ow3 : BookOw H3 (O.give (fun b => b = H1.size ∨ c.dir.blk = some b ∨ c.up.blk = some b ∨ c.com.blk = some b) k3) H.size k3 H1.size v c :=
    ⟨b3, Ow.give_pos (.inl rfl), by omega, nw3.dir, nw3.up, nw3.com, fun b hb => ⟨Ow.give_pos (.inr (.inl hb)), by have := (OwnR.blk_ge nw.dir hb).2; omega⟩, fun b hb => ⟨Ow.give_pos (.inr (.inr (.inl hb))), by have := (OwnR.blk_ge nw.up hb).2; omega⟩, fun b hb => ⟨Ow.give_pos (.inr (.inr (.inr hb))), by have := (OwnR.blk_ge nw.com hb).2; omega⟩, nw.du, nw.uc⟩
  have h3 : BkAt H3 (O.give (fun b => b = H1.size ∨ c.dir.blk = some b ∨ c.up.blk = some b ∨ c.com.blk = some b) k3) k1 k2 bb sb N T K E R down s := ⟨hb.step st3 id, st3.own hb.lt h.own, h.slot.step st3 id id, ne⟩
  generalize O.give (fun b => b = H1.size ∨ c.dir.blk = some b ∨ c.up.blk = some b ∨ c.com.blk = some b) k3 = O3 at st3 ow3 h3
  refine run ?_
  refine RegS.call (hf H3 O3 H1.size c x03 st3 ow3) ?_
  rintro _ H4 ⟨rfl, O4, st4, hq4, hr4⟩
  have h4 : BkAt H4 O4 k1 k2 bb sb N T K E R down s := ⟨h3.blk.step st4 (by rw [h3.own]; exact fun e => hk3.2.1 e.symm), st4.own h3.blk.lt h3.own, h3.slot.step st4 (fun e => hk3.2.2 e.symm) (fun e => hk3.1 e.symm), ne⟩
  have st04 : Step (fun x => x = k2 ∨ x = k3) H O H4 O4 := (st3.mono fun x e => e.elim).trans (st4.mono fun x e => .inr e)
  refine run ?_
  refine Wp.br (fun he => ?_) (fun he => ?_)
  · have he0 : e ≠ 0 := fun h => by subst h; exact he rfl
    refine run ?_
    refine ret1 ⟨?_, O4, st04, ?_, hq4⟩
    · rw [bkChange, if_neg (by simp [hd]), if_pos he0]
    · rw [bkChange, if_neg (by simp [hd]), if_pos he0]; exact h4
  · have he0 : e = 0 := by
      have := Classical.not_not.1 he
      omega
    subst he0
    obtain ⟨c', b4, ro4⟩ := hr4 rfl
    have hf' := hfit rfl
    obtain ⟨hgood, hsm⟩ := bookFit_good hf' hn
    have hlen := bookB_len hf' hn
    refine run ?_
    refine RegS.call (encodeBook_ok v' c' H4 ro4 hsm) ?_
    rintro _ H5 ⟨d, rfl, rd, x5, gd5⟩
    rw [hgood, if_neg (by simp)] at rd
    have st5 : Step (· = k2) H4 O4 H5 O4 := x5.step st4.wf
    have h5 : BkAt H5 O4 k1 k2 bb sb N T K E R down s := ⟨h4.blk.ext x5, h4.own, h4.slot.ext st4.wf x5, ne⟩
    have hb5 := h5.blk
    refine run ?_
    refine RegS.call (save_ok d (bookB v') ⟨rd, fun hp b hb => st4.wf.new b (gd5 b hb)⟩ (by omega) st5.wf h5.slot ne.2.2) ?_
    rintro _ H6 ⟨O6, st6, h6, rfl⟩
    refine run ?_
    refine ret1 ⟨?_, O6, (st04.trans (st5.mono fun x e => .inl e)).trans (st6.mono fun x e => .inl e), ?_, hQ _ _ _ _ (st5.trans st6) hq4⟩
    · rw [bkChange, if_neg (by simp [hd]), if_neg (by simp)]
    · rw [bkChange, if_neg (by simp [hd]), if_neg (by simp)]
      exact ⟨hb5.step st6 (by rw [h5.own]; exact ne.1), st6.own hb5.lt h5.own, h6, ne⟩
end Go.Proofs.YtaikdcnifijcoaaGreat
set_option linter.unusedVariables false
set_option linter.unusedSimpArgs false
namespace Go.Proofs.YtaikdcnifijcoaaGreat
open Go Go.Vc Go.Gf
variable {H : Heap} {O : Ow} {k1 k2 k3 bb sb N T K E R : Nat} {down : Bool} {s : Slt}
theorem owner_bound (O : Ow) : ∀ n : Nat, ∃ K, ∀ b, b < n → O b < K
  | 0 => ⟨0, fun b hb => absurd hb (Nat.not_lt_zero b)⟩
  | n + 1 => by
    obtain ⟨K, h⟩ := owner_bound O n
    refine ⟨max K (O n + 1), fun b hb => ?_⟩
    rcases Nat.lt_succ_iff_lt_or_eq.1 hb with h1 | rfl
    · have := h b h1; omega
    · omega
/-- An owner that owns nothing yet. -/
theorem owner_new (O : Ow) (n k1 k2 : Nat) : ∃ k3, (k3 ≠ 0 ∧ k3 ≠ k1 ∧ k3 ≠ k2) ∧ ∀ b, b < n → O b ≠ k3 := by
  obtain ⟨K, h⟩ := owner_bound O n
  exact ⟨K + k1 + k2 + 1, ⟨by omega, by omega, by omega⟩, fun b hb => by have := h b hb; omega⟩
theorem owner_at (O : Ow) (n m : Nat) : ∃ k, m ≤ k ∧ ∀ b, b < n → O b ≠ k := by
  obtain ⟨K, h⟩ := owner_bound O n
  exact ⟨K + m, by omega, fun b hb => by have := h b hb; omega⟩
theorem Step.drop {S S' : Nat → Prop} {H H' : Heap} {O O' : Ow} (h : Step S H O H' O') (hs : ∀ b, b < H.size → S (O b) → S' (O b)) : Step S' H O H' O' := ⟨h.chg.mono fun b hb => hs b hb, h.agr, h.wf⟩
/-- A session more, if there is one. -/
def nextA (v : BookA) : BookA × Nat := if 1073741824 ≤ v.session then (v, 5) else ({ v with session := v.session + 1 }, 0)
theorem bnext_ok {kb : Nat} (v : BookA) (c : BookS) (hs : 0 ≤ v.session ∧ v.session ≤ 1073741824) (hb : Blk H kb 55 (bookC v c)) :
    CallsH Tryz.prog 130 [ptrD kb] H fun r H' => r = I64 (nextA v).2 ∧ Chg (· = kb) H H' ∧ Blk H' kb 55 (bookC (nextA v).1 c) := by
  refine CallsH.enter h130 Tryz.func130 rfl rfl rfl (by decide) fun u => run ?_
  refine Wp.br (fun h => ?_) (fun h => ?_)
  · have h : ((1073741824 : Nat) : Int) ≤ v.session := h
    refine run ?_
    rw [nextA, if_pos (by omega)]
    exact ret1 ⟨rfl, Chg.refl _ _, hb⟩
  · have h : ¬ ((1073741824 : Nat) : Int) ≤ v.session := h
    refine run ?_
    refine RegS.store (v := IV (v.session + 1)) (Blk.wr hb (j := 0) (by simp)) ?_
    have st : Chg (· = kb) H (hset H ⟨kb, 0, none⟩ (IV (v.session + 1))) := hset_chg H ⟨kb, 0, none⟩ (IV (v.session + 1))
    have b2 : Blk (hset H ⟨kb, 0, none⟩ (IV (v.session + 1))) kb 55 (bookC { v with session := v.session + 1 } c) := Blk.set (j := 0) (v := IV (v.session + 1)) hb
    refine run ?_
    rw [nextA, if_neg (by omega)]
    exact ret1 ⟨rfl, st, b2⟩
theorem nextA_rows (v : BookA) : (nextA v).1.dir = v.dir ∧ (nextA v).1.up = v.up ∧ (nextA v).1.commit = v.commit := by unfold nextA; split <;> exact ⟨rfl, rfl, rfl⟩
theorem BkIs.fit {N : Nat} {s : Slt} {v : BookA} (h : BkIs N s v) : BookFit N v := by
  rcases h with ⟨_, rfl⟩ | ⟨_, f⟩
  · exact ⟨by simp [book0], by simp [book0], by simp [book0], by simp [book0], by simp [book0], by simp [book0], by simp [book0], by simp [book0]⟩
  · exact f
theorem nextA_fit {v : BookA} (h : BookFit N v) : BookFit N (nextA v).1 := by
  have := h.session
  unfold nextA; split
  · exact h
  · exact ⟨by simp only; omega, h.decided, h.epoch, h.dir, h.each, h.up, h.commit, h.com⟩
set_option maxHeartbeats 2000000 in
theorem begin_fn {nb kb lo : Nat} {x : Int} (v : BookA) (c : BookS) (hs : 0 ≤ v.session ∧ v.session ≤ 1073741824) (hb : BookOw H O lo k3 kb v c) (hn : Box H nb 3 (IV x)) (hlt : nb < lo) (hw : WfO H O) (hon : O nb = k3) :
    CallsH Tryz.prog 245 [ptrD kb, ptrD nb] H fun r H' => r = I64 (nextA v).2 ∧ Step (· = k3) H O H' O ∧ BookOw H' O lo k3 kb (nextA v).1 c ∧ Box H' nb 3 (IV (nextA v).1.session) := by
  have hkb := hb.blk
  have ge := hb.ge
  refine CallsH.enter h245 Tryz.func245 rfl rfl rfl (by decide) fun u => run ?_
  refine RegS.call (bnext_ok v c hs hkb) ?_
  rintro _ H1 ⟨rfl, c1, b1⟩
  have n1 := hn.chg c1 (by omega)
  obtain ⟨e1, e2, e3⟩ := nextA_rows v
  have w1 := hb.turn c1 b1 e1 e2 e3
  refine run ?_
  refine RegS.store (v := IV (nextA v).1.session) n1.wr ?_
  have n2 : Box (hset H1 ⟨nb, 0, none⟩ (IV (nextA v).1.session)) nb 3 (IV (nextA v).1.session) := n1.set
  have c2 : Chg (· = nb) H1 (hset H1 ⟨nb, 0, none⟩ (IV (nextA v).1.session)) := hset_chg H1 ⟨nb, 0, none⟩ _
  have st1 : Step (· = k3) H O H1 O := hb.stp hw c1
  have st2 : Step (· = k3) H1 O (hset H1 ⟨nb, 0, none⟩ (IV (nextA v).1.session)) O := c2.step st1.wf fun x _ e => by subst e; exact hon
  refine run ?_
  exact ret1 ⟨rfl, st1.trans st2, w1.chg c2 (fun b hb e => by omega), n2⟩
/-- A session more, kept. -/
def begA (down : Bool) (s : Slt) (v : BookA) : Slt × Nat := bkChange down s (nextA v).1 (nextA v).2
set_option maxHeartbeats 2000000 in
theorem begin_ok (v : BookA) (hn : N ≤ 255) (hw : WfO H O) (h : BkAt H O k1 k2 bb sb N T K E R down s) (hv : BkIs N s v) :
    CallsH Tryz.prog 204 [ptrD bb] H fun r H' => r = .tuple #[if (begA down s v).2 = 0 then IV (v.session + 1) else IV 0, I64 (begA down s v).2] ∧ ∃ O', Step (· = k2) H O H' O' ∧ BkAt H' O' k1 k2 bb sb N T K E R down (begA down s v).1 := by
  have hfit := hv.fit
  have hse := hfit.session
  have hb := h.blk
  obtain ⟨k3, hk3, hno⟩ := owner_new O H.size k1 k2
  refine CallsH.enter h204 Tryz.func204 rfl rfl rfl (by decide) fun u => run ?_
  refine RegS.alloc fun H1 x1 z1 b1 => ?_
  have b1 : Box H1 H.size 3 (IV 0) := ⟨b1⟩
  refine run ?_
  refine RegS.store (v := IV 0) b1.wr ?_
  have b2 : Box (hset H1 ⟨H.size, 0, none⟩ (IV 0)) H.size 3 (IV 0) := b1.set
  have x2 : Ext H (hset H1 ⟨H.size, 0, none⟩ (IV 0)) := x1.then (hset_chg H1 ⟨H.size, 0, none⟩ (IV 0)) fun b hb => by simp only at hb; omega
  generalize hset H1 ⟨H.size, 0, none⟩ (IV 0) = H2 at b2 x2 ⊢
  have lt2 := b2.lt
  have st2 : Step (fun _ => False) H O H2 (O.give (fun x => x = H.size) k3) := (x2.step hw).give fun x hx => by omega
  have ho : (O.give (fun x => x = H.size) k3) H.size = k3 := Ow.give_pos rfl
  generalize O.give (fun x => x = H.size) k3 = O2 at st2 ho
  have h2 : BkAt H2 O2 k1 k2 bb sb N T K E R down s := ⟨hb.step st2 id, st2.own hb.lt h.own, h.slot.step st2 id id, h.ne⟩
  refine run ?_
  refine RegS.call (change_ok (k3 := k3) v (nextA v).1 (nextA v).2 (fun A OA => OA H.size = k3 ∧ ∃ x, Box A H.size 3 (IV x) ∧ ((down || s.pw.gone) = false → x = (nextA v).1.session)) hn st2.wf h2 hv hk3 (fun _ => nextA_fit hfit) (fun hd => ⟨ho, 0, b2, fun h => by rw [hd] at h; cases h⟩) (fun A B OA OB st hq => ?_) (fun A OA kb c x st ow => ?_)) ?_
  · obtain ⟨q1, x, q2, q3⟩ := hq
    exact ⟨st.own q2.lt q1, x, q2.chg st.chg (by rw [q1]; exact hk3.2.2), q3⟩
  · refine (begin_fn v c hse ow (b2.ext x) (by omega) st.wf (st.own lt2 ho)).mono fun r A' hr => ?_
    obtain ⟨r1, r2, r3, r4⟩ := hr
    exact ⟨r1, OA, r2, ⟨st.own lt2 ho, _, r4, fun _ => rfl⟩, fun _ => ⟨c, r3.blk, r3.inn⟩⟩
  rintro _ H3 ⟨rfl, O3, st3, h3, q1, x, q2, q3⟩
  have st03 : Step (· = k2) H O H3 O3 := Step.drop (S := fun x => x = k2 ∨ x = k3) ((st2.mono fun x e => e.elim).trans st3) fun b hb e => e.elim id fun e => absurd e (hno b hb)
  rw [← begA] at *
  refine run ?_
  refine Wp.br (fun he => ?_) (fun he => ?_)
  · have he0 : (begA down s v).2 ≠ 0 := fun h => by rw [h] at he; exact he rfl
    refine run ?_
    refine ret2 ⟨?_, O3, st03, h3⟩
    rw [if_neg he0]; rfl
  · have he0 : (begA down s v).2 = 0 := by
      have := Classical.not_not.1 he
      omega
    have hdn : (down || s.pw.gone) = false := by
      cases hd : (down || s.pw.gone) with
      | false => rfl
      | true => rw [begA, bkChange, if_pos hd] at he0; cases he0
    have hx : x = v.session + 1 := by
      rw [q3 hdn]
      unfold begA bkChange at he0
      rw [if_neg (by rw [hdn]; simp)] at he0
      unfold nextA at he0 ⊢
      by_cases hl : 1073741824 ≤ v.session
      · rw [if_pos hl] at he0; simp at he0
      · rw [if_neg hl]
    subst hx
    refine run ?_
    refine ret2 ⟨?_, O3, st03, h3⟩
    rw [if_pos he0, he0]; rfl
end Go.Proofs.YtaikdcnifijcoaaGreat
set_option linter.unusedVariables false
set_option linter.unusedSimpArgs false
namespace Go.Proofs.YtaikdcnifijcoaaGreat
open Go Go.Vc Go.Gf
variable {H : Heap} {O : Ow} {k1 k2 k3 bb sb N T K E R : Nat} {down : Bool} {s : Slt}
/-- The book behind a change. -/
def bkV (down : Bool) (s : Slt) (v v' : BookA) (e : Nat) : BookA := if (down || s.pw.gone) = true ∨ e ≠ 0 then v else if (s.save (bookB v')).1.kept = bookB v' then v' else v
theorem save_kept (s : Slt) (b : List UInt8) : (s.save b).1.kept = b ∨ (s.save b).1.kept = s.kept := by
  unfold Slt.save
  split
  · exact .inr rfl
  · split
    · exact .inr rfl
    · exact .inl rfl
theorem save_zero {s : Slt} {b : List UInt8} (h : (s.save b).2 = 0) : (s.save b).1.kept = b := by
  unfold Slt.save at h ⊢
  split at h
  · cases h
  · split at h
    · cases h
    · rename_i h1 h2; rw [if_neg h1, if_neg h2]
theorem BkIs.kept {N : Nat} {s s' : Slt} {v : BookA} (h : BkIs N s v) (e : s'.kept = s.kept) : BkIs N s' v := by
  unfold BkIs at *; rw [e]; exact h
theorem bk_is {v v' : BookA} {e : Nat} (hv : BkIs N s v) (hf : e = 0 → BookFit N v') : BkIs N (bkChange down s v' e).1 (bkV down s v v' e) := by
  unfold bkChange bkV
  by_cases hd : (down || s.pw.gone) = true
  · rw [if_pos hd, if_pos (.inl hd)]; exact hv
  · rw [if_neg hd]
    by_cases he : e ≠ 0
    · rw [if_pos he, if_pos (.inr he)]; exact hv
    · rw [if_neg he, if_neg (by intro h; exact h.elim hd he)]
      by_cases hk : (s.save (bookB v')).1.kept = bookB v'
      · rw [if_pos hk]; exact .inr ⟨hk, hf (Classical.not_not.1 he)⟩
      · rw [if_neg hk]
        exact hv.kept ((save_kept s _).resolve_left hk)
theorem bk_zero {v v' : BookA} {e : Nat} (h : (bkChange down s v' e).2 = 0) : (down || s.pw.gone) = false ∧ e = 0 ∧ (s.save (bookB v')).2 = 0 ∧ bkV down s v v' e = v' := by
  unfold bkChange at h
  by_cases hd : (down || s.pw.gone) = true
  · rw [if_pos hd] at h; cases h
  · rw [if_neg hd] at h
    by_cases he : e ≠ 0
    · rw [if_pos he] at h; exact absurd h he
    · rw [if_neg he] at h
      refine ⟨by simpa using hd, Classical.not_not.1 he, h, ?_⟩
      unfold bkV
      rw [if_neg (by intro h; exact h.elim hd he), if_pos (save_zero h)]
/-- A slot whose power stays. -/
theorem save_pw {s : Slt} {b : List UInt8} (h : s.pw = pw0) : (s.save b).1.pw = pw0 := by
  unfold Slt.save
  split
  · exact h
  · split
    · simp only [h, pw0_run]
    · simp only [h, pw0_run]
theorem bk_pw {v' : BookA} {e : Nat} (h : s.pw = pw0) : (bkChange down s v' e).1.pw = pw0 := by
  unfold bkChange
  split
  · exact h
  · split
    · exact h
    · exact save_pw h
theorem save_ok0 {s : Slt} {b : List UInt8} (h : s.pw = pw0) (hr : takesN b.length ≤ s.room) : (s.save b).2 = 0 := by
  unfold Slt.save
  rw [if_neg (by omega), if_neg (by rw [h, pw0_run]; simp [pw0])]
  simp only [h, pw0_run]
  rfl
/-- Some are not up. -/
def markU (up : List Bool) (l : List Int) : List Bool := l.foldl (fun u (n : Int) => if 0 ≤ n ∧ n < u.length then u.set n.toNat false else u) up
theorem markU_length (l : List Int) : ∀ up : List Bool, (markU up l).length = up.length := by
  induction l with
  | nil => intro up; rfl
  | cons a l ih =>
    intro up
    show (markU (if 0 ≤ a ∧ a < up.length then up.set a.toNat false else up) l).length = _
    rw [ih]
    split <;> simp
theorem markU_snoc (up : List Bool) (l : List Int) (n : Int) : markU up (l ++ [n]) = if 0 ≤ n ∧ n < up.length then (markU up l).set n.toNat false else markU up l := by
  have := markU_length l up
  unfold markU at *
  rw [List.foldl_append]
  simp only [List.foldl_cons, List.foldl_nil]
  rw [this]
def markV (v : BookA) (l : List Int) : BookA := { v with up := markU v.up l }
theorem bthere_ok {x : Value} {d : Bool} (n : Int) (hb : Blk H bb 127 [I64 N, I64 T, I64 K, I64 E, I64 R, x, .bool d]) : CallsH Tryz.prog 206 [ptrD bb, IV n] H fun r H' => r = .bool (dec (0 ≤ n ∧ n < N)) ∧ H = H' := by
  refine CallsH.enter h206 Tryz.func206 rfl rfl rfl (by decide) fun u => run ?_
  refine RegS.sp (fun h => ?_) (fun h => ?_) <;> refine run ?_
  · have h : 0 ≤ n := h
    refine ret1 ⟨?_, rfl⟩
    congr 1
    by_cases hn : n < N
    · rw [dec_pos hn, dec_pos ⟨h, hn⟩]
    · rw [dec_neg hn, dec_neg fun k => hn k.2]
  · have h : ¬ 0 ≤ n := h
    refine ret1 ⟨?_, rfl⟩
    rw [dec_neg fun k => h k.1]
    rfl
set_option maxHeartbeats 2000000 in
theorem mark_fn {lb pb kb lo : Nat} {x : Value} {d : Bool} (v : BookA) (c : BookS) (w : Sl) (l : List Int) (hup : v.up.length = N) (hll : l.length ≤ 9223372036854775807) (hb : BookOw H O lo k3 kb v c) (hl : Box H lb 34 w.val) (hp : Box H pb 56 (ptrD bb)) (hbk : Blk H bb 127 [I64 N, I64 T, I64 K, I64 E, I64 R, x, .bool d]) (hr : RowF IV 0 H w l)
    (hlt : lb < lo ∧ pb < lo ∧ bb < lo ∧ (0 < w.len → ∀ b, w.blk = some b → b < lo)) :
    CallsH Tryz.prog 205 [ptrD kb, ptrD lb, ptrD pb] H fun r H' => r = I64 0 ∧ Chg (fun b => c.up.blk = some b) H H' ∧ BookOw H' O lo k3 kb (markV v l) c := by
  have hkb := hb.blk
  refine CallsH.enter h205 Tryz.func205 rfl rfl rfl (by decide) fun u => run ?_
  have hlo := hb.up
  refine Wp.loop (ι := Nat) (fun i => [(0, ptrD kb), (1, ptrD lb), (2, ptrD pb), (7, w.val), (8, I64 l.length), (9, I64 i)]) (fun i A => i ≤ l.length ∧ OwnF Value.bool A lo 4 c.up (markU v.up (l.take i)) ∧ Chg (fun b => c.up.blk = some b) H A) (fun i => l.length - i) 0 subs ⟨Nat.zero_le _, by rw [List.take_zero]; exact hb.up, Chg.refl _ _⟩ ?_
  rintro i A ⟨hi1, oA, cA⟩
  have hge : ∀ b, c.up.blk = some b → lo ≤ b := fun b hb' => (OwnR.blk_ge oA hb').1
  have kA := hkb.chg cA fun e => (hb.ou _ e).2 rfl
  have pA := hp.chg cA fun e => by have := hge _ e; omega
  have bA := hbk.chg cA fun e => by have := hge _ e; omega
  have rA := hr.chgN cA fun hp' b hb' => ⟨hr.lt hp' b hb', fun e => by have := hge _ e; have := hlt.2.2.2 hp' b hb'; omega⟩
  have uA : RowF Value.bool false A c.up (markU v.up (l.take i)) := OwnR.rowF oA
  have hul := markU_length (l.take i) v.up
  refine run ?_
  refine Wp.br (fun hlt' => ?_) (fun hlt' => ?_)
  · have hlt' : (i : Int) < (l.length : Int) := hlt'
    have hit : i < l.length := by omega
    have hsn := markU_snoc v.up (l.take i) (l.getD i 0)
    rw [← take_snoc' 0 hit] at hsn
    refine run ?_
    generalize l.getD i 0 = n at hsn ⊢
    refine RegS.call (bthere_ok n bA) ?_
    rintro _ _ ⟨rfl, rfl⟩
    refine run ?_
    refine Wp.br (fun hn => ?_) (fun hn => ?_)
    · have hn : 0 ≤ n ∧ n < N := hn
      rw [if_pos (by omega)] at hsn
      obtain ⟨n, rfl⟩ := Int.eq_ofNat_of_zero_le hn.1
      have hnl : n < (List.map Value.bool (markU v.up (l.take i))).length := by rw [List.length_map]; omega
      refine run ?_
      refine RegS.store (v := .bool false) (oA.wr hnl) ?_
      obtain ⟨o9, c9⟩ := oA.set hnl (.bool false)
      generalize hset A (c.up.cell n) (Value.bool false) = A9 at o9 c9 ⊢
      refine run ?_
      refine roundQ_n (i + 1) subs ⟨by omega, ?_, cA.trans c9⟩ (by omega)
      rw [hsn, OwnF, Int.toNat_natCast, List.map_set]
      exact o9
    · have hn : ¬ (0 ≤ n ∧ n < N) := hn
      rw [if_neg (by omega)] at hsn
      refine run ?_
      exact roundQ_n (i + 1) subs ⟨by omega, by rw [hsn]; exact oA, cA⟩ (by omega)
  · have hlt' : ¬ (i : Int) < (l.length : Int) := hlt'
    have hie : i = l.length := by omega
    subst hie
    rw [List.take_length] at oA
    refine run ?_
    refine ret1 ⟨rfl, cA, ⟨kA, hb.own, hb.ge, hb.dir.chg cA fun b hb' e => (hb.du b hb').1 e, oA, OwnR.chg hb.com cA fun b hb' e => hb.uc b e hb', hb.od, hb.ou, hb.oc, hb.du, hb.uc⟩⟩
theorem markV_fit {v : BookA} {l : List Int} (h : BookFit N v) : BookFit N (markV v l) := ⟨h.session, h.decided, h.epoch, h.dir, h.each, by rw [← h.up]; exact markU_length l v.up, h.commit, h.com⟩
/-- Some are not up, kept. -/
def markA (down : Bool) (s : Slt) (v : BookA) (l : List Int) : Slt × Nat := bkChange down s (markV v l) 0
set_option maxHeartbeats 2000000 in
theorem mark_ok (v : BookA) (w : Sl) (l : List Int) (hn : N ≤ 255) (hll : l.length ≤ 1000000) (hw : WfO H O) (h : BkAt H O k1 k2 bb sb N T K E R down s) (hv : BkIs N s v) (hr : RowF IV 0 H w l) :
    CallsH Tryz.prog 136 [ptrD bb, w.val] H fun r H' => r = I64 (markA down s v l).2 ∧ ∃ O', Step (· = k2) H O H' O' ∧ BkAt H' O' k1 k2 bb sb N T K E R down (markA down s v l).1 := by
  have hfit := hv.fit
  have hb := h.blk
  obtain ⟨k3, hk3, hno⟩ := owner_new O H.size k1 k2
  refine CallsH.enter h136 Tryz.func136 rfl rfl rfl (by decide) fun u => run ?_
  refine RegS.box fun H1 x1 z1 b1 => ?_
  have b1 : Box H1 H.size 56 (ptrD bb) := ⟨b1⟩
  refine run ?_
  refine RegS.box fun H2 x2 z2 b2 => ?_
  have b2 : Box H2 H1.size 34 w.val := ⟨b2⟩
  have b1 := b1.ext x2
  have x02 := x1.trans x2
  have st2 : Step (fun _ => False) H O H2 O := x02.step hw
  have h2 : BkAt H2 O k1 k2 bb sb N T K E R down s := ⟨hb.step st2 id, st2.own hb.lt h.own, h.slot.step st2 id id, h.ne⟩
  have r2 := hr.ext x02
  have l1 := b1.lt
  have l2 := b2.lt
  have lb := hb.lt
  refine run ?_
  refine RegS.call (change_ok (k3 := k3) v (markV v l) 0 (fun _ _ => True) hn st2.wf h2 hv hk3 (fun _ => markV_fit hfit) (fun _ => trivial) (fun _ _ _ _ _ _ => trivial) (fun A OA kb c x st ow => ?_)) ?_
  · refine (mark_fn v c w l hfit.up (by omega) ow (b2.ext x) (b1.ext x) (h2.blk.ext x) (r2.ext x) ⟨by omega, by omega, by omega, fun hp b hb' => by have := hr.lt hp b hb'; omega⟩).mono fun r A' hr => ?_
    obtain ⟨r1, r2, r3⟩ := hr
    exact ⟨r1, OA, r2.step st.wf fun b _ e => (ow.ou b e).1, trivial, fun _ => ⟨c, r3.blk, r3.inn⟩⟩
  rintro _ H3 ⟨rfl, O3, st3, h3, _⟩
  have st03 : Step (· = k2) H O H3 O3 := Step.drop (S := fun x => x = k2 ∨ x = k3) ((st2.mono fun x e => e.elim).trans st3) fun b hb e => e.elim id fun e => absurd e (hno b hb)
  refine run ?_
  exact ret1 ⟨rfl, O3, st03, h3⟩
end Go.Proofs.YtaikdcnifijcoaaGreat
set_option linter.unusedVariables false
set_option linter.unusedSimpArgs false
