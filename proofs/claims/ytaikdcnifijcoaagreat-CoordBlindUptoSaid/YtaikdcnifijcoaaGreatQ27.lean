/-
  The walks of book.Refresh and book.Recover.
-/
import Derived.Test.YtaikdcnifijcoaaGreatQ17
import Derived.Test.YtaikdcnifijcoaaGreatQ23
set_option linter.unusedVariables false
set_option linter.unusedSimpArgs false
namespace Go.Proofs.YtaikdcnifijcoaaGreat
open Go Go.Vc Go.Gf
theorem mem_getD {β : Type} {d x : β} {l : List β} : x ∈ l ↔ ∃ i, i < l.length ∧ l.getD i d = x := by
  rw [List.mem_iff_getElem]
  constructor
  · rintro ⟨i, h, e⟩; exact ⟨i, h, by simp [List.getD_eq_getElem?_getD, h, e]⟩
  · rintro ⟨i, h, e⟩; exact ⟨i, h, by simpa [List.getD_eq_getElem?_getD, h] using e⟩
theorem indexI_ok (s : Sl) (l : List Int) (x : Int) (H : Heap) (hs : RowF IV 0 H s l) (hl : l.length ≤ 9223372036854775807) : CallsH Tryz.prog 220 [s.val, IV x] H fun v H' => (∃ z : Int, v = IV z ∧ (0 ≤ z ↔ x ∈ l)) ∧ H = H' := by
  refine CallsH.enter h220 Tryz.func220 rfl rfl rfl (by decide) fun u => go ?_
  refine Wp.loop (ι := Nat) (fun i => [(0, s.val), (1, IV x), (7, I64 l.length), (8, I64 i)]) (fun i A => i ≤ l.length ∧ (∀ k, k < i → l.getD k 0 ≠ x) ∧ H = A) (fun i => l.length - i) 0 subs ⟨by omega, fun k h => absurd h (by omega), rfl⟩ ?_
  rintro i _ ⟨hi, hall, rfl⟩
  refine go ?_
  refine Wp.br (fun h => ?_) (fun h => ?_)
  · have h : (i : Int) < (l.length : Int) := h
    refine go ?_
    refine Wp.br (fun h' => ?_) (fun h' => ?_) <;> refine go ?_
    · have h' : x = l.getD i 0 := h'
      refine ret1 ⟨⟨(i : Int), rfl, ?_⟩, rfl⟩
      exact ⟨fun _ => mem_getD.2 ⟨i, by omega, h'.symm⟩, fun _ => by omega⟩
    · refine roundQ_n (i + 1) ⟨rfl, rfl, rfl, rfl, trivial⟩ ⟨by omega, fun k hk => ?_, rfl⟩ (by omega)
      by_cases e : k = i
      · subst e; exact fun e => h' e.symm
      · exact hall k (by omega)
  · have h : ¬ (i : Int) < (l.length : Int) := h
    refine go ?_
    refine ret1 ⟨⟨-1, rfl, ?_⟩, rfl⟩
    refine ⟨fun k => absurd k (by omega), fun k => ?_⟩
    obtain ⟨j, hj, e⟩ := (mem_getD (d := 0)).1 k
    exact absurd e (hall j (by omega))
theorem containsI_ok (s : Sl) (l : List Int) (x : Int) (H : Heap) (hs : RowF IV 0 H s l) (hl : l.length ≤ 9223372036854775807) : CallsH Tryz.prog 157 [s.val, IV x] H fun v H' => v = .bool (dec (x ∈ l)) ∧ H = H' := by
  refine CallsH.enter h157 Tryz.func157 rfl rfl rfl (by decide) fun u => go ?_
  refine RegS.call (indexI_ok s l x H hs hl) ?_
  rintro _ _ ⟨⟨z, rfl, hz⟩, rfl⟩
  refine go ?_
  refine ret1 ⟨?_, rfl⟩
  exact congrArg _ (dec_congr hz)
end Go.Proofs.YtaikdcnifijcoaaGreat
set_option linter.unusedVariables false
set_option linter.unusedSimpArgs false
namespace Go.Proofs.YtaikdcnifijcoaaGreat
open Go Go.Vc Go.Gf
variable {H : Heap} {O : Ow} {k1 k2 k3 bb sb N T K E R : Nat} {down : Bool} {s : Slt}
/-- Who takes part: the first i. -/
def countU (up : List Bool) (l : List Int) (i : Nat) : List Bool := (List.range up.length).map fun k => if k < i ∧ (k : Int) ∉ l then false else up.getD k false
def countC (com : List Int) (s : Int) (l : List Int) (i : Nat) : List Int := (List.range com.length).map fun k => if k < i ∧ (k : Int) ∈ l then s else com.getD k 0
theorem range_eta {β : Type} (d : β) (l : List β) : (List.range l.length).map (fun k => l.getD k d) = l := by
  refine List.ext_getElem (by simp) fun k h1 h2 => ?_
  simp [List.getD_eq_getElem?_getD, h2]
theorem countU_zero (up : List Bool) (l : List Int) : countU up l 0 = up := by
  unfold countU
  rw [show (fun k => if k < 0 ∧ ((k : Nat) : Int) ∉ l then false else up.getD k false) = fun k => up.getD k false from funext fun k => if_neg fun h => by omega]
  exact range_eta false up
theorem countC_zero (com : List Int) (s : Int) (l : List Int) : countC com s l 0 = com := by
  unfold countC
  rw [show (fun k => if k < 0 ∧ ((k : Nat) : Int) ∈ l then s else com.getD k 0) = fun k => com.getD k 0 from funext fun k => if_neg fun h => by omega]
  exact range_eta 0 com
theorem countU_length (up : List Bool) (l : List Int) (i : Nat) : (countU up l i).length = up.length := by simp [countU]
theorem countC_length (com : List Int) (s : Int) (l : List Int) (i : Nat) : (countC com s l i).length = com.length := by simp [countC]
theorem range_put {β : Type} (f g : Nat → β) {N k : Nat} (hk : k < N) (h : ∀ j, j < N → g j = if j = k then g k else f j) : ((List.range N).map f).set k (g k) = (List.range N).map g := by
  refine List.ext_getElem (by simp) fun j h1 h2 => ?_
  have hj : j < N := by simpa using h2
  rw [List.getElem_set]
  simp only [List.getElem_map, List.getElem_range]
  rw [h j hj]
  by_cases e : j = k
  · rw [if_pos e.symm, if_pos e]
  · rw [if_neg fun x => e x.symm, if_neg e]
theorem countU_in {up : List Bool} {l : List Int} {i : Nat} (h : (i : Int) ∈ l) : countU up l (i + 1) = countU up l i := by
  unfold countU
  refine List.map_congr_left fun k _ => ?_
  by_cases hk : k < i ∧ (k : Int) ∉ l
  · rw [if_pos ⟨by omega, hk.2⟩, if_pos hk]
  · rw [if_neg hk, if_neg fun x => hk ⟨by
      have : k ≠ i := fun e => by subst e; exact x.2 h
      omega, x.2⟩]
theorem countC_in {com : List Int} {s : Int} {l : List Int} {i : Nat} (h : (i : Int) ∈ l) (hi : i < com.length) : countC com s l (i + 1) = (countC com s l i).set i s := by
  have e := range_put (fun k => if k < i ∧ ((k : Nat) : Int) ∈ l then s else com.getD k 0) (fun k => if k < i + 1 ∧ ((k : Nat) : Int) ∈ l then s else com.getD k 0) hi fun j _ => by
    by_cases e : j = i
    · rw [if_pos e, e]
    · rw [if_neg e]
      by_cases hj : j < i ∧ (j : Int) ∈ l
      · rw [if_pos hj, if_pos ⟨by omega, hj.2⟩]
      · rw [if_neg hj, if_neg fun x => hj ⟨by omega, x.2⟩]
  have e2 : (if i < i + 1 ∧ ((i : Nat) : Int) ∈ l then s else com.getD i 0) = s := if_pos ⟨by omega, h⟩
  simp only [e2] at e
  exact e.symm
theorem countU_out {up : List Bool} {l : List Int} {i : Nat} (h : (i : Int) ∉ l) (hi : i < up.length) : countU up l (i + 1) = (countU up l i).set i false := by
  have e := range_put (fun k => if k < i ∧ ((k : Nat) : Int) ∉ l then false else up.getD k false) (fun k => if k < i + 1 ∧ ((k : Nat) : Int) ∉ l then false else up.getD k false) hi fun j _ => by
    by_cases e : j = i
    · rw [if_pos e, e]
    · rw [if_neg e]
      by_cases hj : j < i ∧ (j : Int) ∉ l
      · rw [if_pos hj, if_pos ⟨by omega, hj.2⟩]
      · rw [if_neg hj, if_neg fun x => hj ⟨by omega, x.2⟩]
  have e2 : (if i < i + 1 ∧ ((i : Nat) : Int) ∉ l then false else up.getD i false) = false := if_pos ⟨by omega, h⟩
  simp only [e2] at e
  exact e.symm
theorem countC_out {com : List Int} {s : Int} {l : List Int} {i : Nat} (h : (i : Int) ∉ l) : countC com s l (i + 1) = countC com s l i := by
  unfold countC
  refine List.map_congr_left fun k _ => ?_
  by_cases hk : k < i ∧ (k : Int) ∈ l
  · rw [if_pos ⟨by omega, hk.2⟩, if_pos hk]
  · rw [if_neg hk, if_neg fun x => hk ⟨by
      have : k ≠ i := fun e => by subst e; exact h x.2
      omega, x.2⟩]
def countV (v : BookA) (l : List Int) : BookA := { v with decided := v.session, up := countU v.up l v.up.length, commit := countC v.commit v.session l v.up.length }
set_option maxHeartbeats 4000000 in
theorem count2_ok {kb lo : Nat} {x : Value} (v : BookA) (c : BookS) (w : Sl) (l : List Int) (hup : v.up.length = N) (hcom : v.commit.length = N) (hNN : N ≤ 255) (hll : l.length ≤ 1000000) (hb : BookOw H O lo k3 kb v c) (hr : RowF IV 0 H w l) (hlt : 0 < w.len → ∀ b, w.blk = some b → b < lo) :
    CallsH Tryz.prog 217 [x, ptrD kb, w.val] H fun r H' => Chg (fun b => b = kb ∨ c.up.blk = some b ∨ c.com.blk = some b) H H' ∧ BookOw H' O lo k3 kb (countV v l) c := by
  have hkb := hb.blk
  have hu0 : RowF Value.bool false H c.up v.up := OwnR.rowF hb.up
  refine CallsH.enter h217 Tryz.func217 rfl rfl rfl (by decide) fun u => ?_
  refine Wp.scope ?_
  refine run ?_
  refine Wp.loop (ι := Nat) (fun i => [(0, x), (1, ptrD kb), (2, w.val), (11, I64 v.up.length), (12, I64 i)]) (fun i A => i ≤ v.up.length ∧ OwnF Value.bool A lo 4 c.up (countU v.up l i) ∧ OwnF IV A lo 3 c.com (countC v.commit v.session l i) ∧ Chg (fun b => c.up.blk = some b ∨ c.com.blk = some b) H A) (fun i => v.up.length - i) 0 subs ⟨Nat.zero_le _, by rw [countU_zero]; exact hb.up, by rw [countC_zero]; exact hb.com, Chg.refl _ _⟩ ?_
  rintro i A ⟨hi1, oU, oC, cA⟩
  have hge : ∀ b, (c.up.blk = some b ∨ c.com.blk = some b) → lo ≤ b := fun b hb' => hb'.elim (fun h => (OwnR.blk_ge oU h).1) fun h => (OwnR.blk_ge oC h).1
  have kA := hkb.chg cA fun e => e.elim (fun e => (hb.ou _ e).2 rfl) fun e => (hb.oc _ e).2 rfl
  have rA := hr.chgN cA fun hp' b hb' => ⟨hr.lt hp' b hb', fun e => by have := hge _ e; have := hlt hp' b hb'; omega⟩
  have uA : RowF Value.bool false A c.up (countU v.up l i) := OwnR.rowF oU
  have xA : RowF IV 0 A c.com (countC v.commit v.session l i) := OwnR.rowF oC
  have hul := countU_length v.up l i
  have hcl := countC_length v.commit v.session l i
  refine run ?_
  refine Wp.br (fun hlt' => ?_) (fun hlt' => ?_)
  · have hlt' : (i : Int) < (v.up.length : Int) := hlt'
    refine run ?_
    refine RegS.call (containsI_ok w l i A rA (by omega)) ?_
    rintro _ _ ⟨rfl, rfl⟩
    refine run ?_
    refine Wp.br (fun hin => ?_) (fun hin => ?_)
    · have hin : (i : Int) ∈ l := hin
      have e1 := countU_in (up := v.up) hin
      have e2 := countC_in (com := v.commit) (s := v.session) hin (by omega)
      have hnl : i < (List.map IV (countC v.commit v.session l i)).length := by rw [List.length_map]; omega
      refine run ?_
      refine RegP.store (v := IV v.session) (oC.wr hnl) ?_ ?_
      · exact proms2
      obtain ⟨o9, c9⟩ := oC.set hnl (IV v.session)
      have u9 := oU.chg c9 fun b hb' e => hb.uc b hb' e
      generalize hset A (c.com.cell i) (IV v.session) = A9 at o9 c9 u9 ⊢
      refine run ?_
      refine roundQ_n (i + 1) subs ⟨by omega, by rw [e1]; exact u9, ?_, cA.trans (c9.mono fun b _ e => .inr e)⟩ (by omega)
      rw [e2, OwnF, List.map_set]
      exact o9
    · have hin : ¬ (i : Int) ∈ l := hin
      have e1 := countU_out (up := v.up) hin (by omega)
      have e2 := countC_out (com := v.commit) (s := v.session) hin
      have hnl : i < (List.map Value.bool (countU v.up l i)).length := by rw [List.length_map]; omega
      refine run ?_
      refine RegS.store (v := .bool false) (oU.wr hnl) ?_
      obtain ⟨o9, c9⟩ := oU.set hnl (.bool false)
      have u9 := oC.chg c9 fun b hb' e => hb.uc b e hb'
      generalize hset A (c.up.cell i) (Value.bool false) = A9 at o9 c9 u9 ⊢
      refine run ?_
      refine roundQ_n (i + 1) subs ⟨by omega, ?_, by rw [e2]; exact u9, cA.trans (c9.mono fun b _ e => .inl e)⟩ (by omega)
      rw [e1, OwnF, List.map_set]
      exact o9
  · have hlt' : ¬ (i : Int) < (v.up.length : Int) := hlt'
    have hie : i = v.up.length := by omega
    subst hie
    refine run ?_
    refine RegS.store (v := IV v.session) (Blk.wr kA (j := 1) (by simp)) ?_
    have k9 : Blk (hset A ⟨kb, 1, none⟩ (IV v.session)) kb 55 (bookC (countV v l) c) := Blk.set (j := 1) (v := IV v.session) kA
    have c9 : Chg (· = kb) A (hset A ⟨kb, 1, none⟩ (IV v.session)) := hset_chg A ⟨kb, 1, none⟩ (IV v.session)
    have d9 := (hb.dir.chg cA fun b hb' e => e.elim (hb.du b hb').1 (hb.du b hb').2).chg c9 fun b hb' => (hb.od b hb').2
    have u9 := oU.chg c9 fun b hb' => (hb.ou b hb').2
    have x9 := oC.chg c9 fun b hb' => (hb.oc b hb').2
    generalize hset A ⟨kb, 1, none⟩ (IV v.session) = A9 at k9 c9 d9 u9 x9 ⊢
    refine run ?_
    exact ret0n ⟨(cA.mono fun b _ e => .inr e).trans (c9.mono fun b _ e => .inl e), k9, hb.own, hb.ge, d9, u9, x9, hb.od, hb.ou, hb.oc, hb.du, hb.uc⟩
theorem countV_fit {v : BookA} {l : List Int} (h : BookFit N v) : BookFit N (countV v l) := by
  refine ⟨h.session, h.session, h.epoch, h.dir, h.each, by rw [← h.up]; exact countU_length _ _ _, by rw [← h.commit]; exact countC_length _ _ _ _, fun y hy => ?_⟩
  obtain ⟨k, hk, rfl⟩ := List.mem_map.1 (show y ∈ countC v.commit v.session l v.up.length from hy)
  split
  · exact h.session
  · by_cases hk2 : k < v.commit.length
    · exact h.com _ (by rw [getD_get _ hk2]; exact List.getElem_mem _)
    · exact absurd (List.mem_range.1 hk) hk2
/-- An epoch more. -/
def refA (v : BookA) (l : List Int) : BookA × Nat := if 1048576 ≤ v.epoch then (v, 11) else (countV { v with epoch := v.epoch + 1 } l, 0)
set_option maxHeartbeats 4000000 in
theorem refresh_fn {lb pb kb lo : Nat} (v : BookA) (c : BookS) (w : Sl) (l : List Int) (hfit : BookFit N v) (hNN : N ≤ 255) (hll : l.length ≤ 1000000) (hb : BookOw H O lo k3 kb v c) (hl : Box H lb 34 w.val) (hp : Box H pb 56 (ptrD bb)) (hr : RowF IV 0 H w l)
    (hlt : lb < lo ∧ pb < lo ∧ (0 < w.len → ∀ b, w.blk = some b → b < lo)) :
    CallsH Tryz.prog 218 [ptrD kb, ptrD pb, ptrD lb] H fun r H' => r = I64 (refA v l).2 ∧ Chg (fun b => b = kb ∨ c.up.blk = some b ∨ c.com.blk = some b) H H' ∧ BookOw H' O lo k3 kb (refA v l).1 c := by
  have hkb := hb.blk
  have hge := hb.ge
  refine CallsH.enter h218 Tryz.func218 rfl rfl rfl (by decide) fun u => run ?_
  refine Wp.br (fun he => ?_) (fun he => ?_)
  · have he : v.epoch ≥ ((1048576 : Nat) : Int) := he
    rw [refA, if_pos (by omega)]
    refine run ?_
    exact ret1 ⟨rfl, Chg.refl _ _, hb⟩
  · have he : ¬ v.epoch ≥ ((1048576 : Nat) : Int) := he
    have hep := hfit.epoch
    rw [refA, if_neg (by omega)]
    refine run ?_
    refine RegS.store (v := IV (v.epoch + 1)) (Blk.wr hkb (j := 2) (by simp)) ?_
    have k9 : Blk (hset H ⟨kb, 2, none⟩ (IV (v.epoch + 1))) kb 55 (bookC { v with epoch := v.epoch + 1 } c) := Blk.set (j := 2) (v := IV (v.epoch + 1)) hkb
    have c9 : Chg (· = kb) H (hset H ⟨kb, 2, none⟩ (IV (v.epoch + 1))) := hset_chg H ⟨kb, 2, none⟩ (IV (v.epoch + 1))
    have w9 := hb.turn (w := { v with epoch := v.epoch + 1 }) c9 k9 rfl rfl rfl
    have l9 := hl.chg c9 (by omega)
    have p9 := hp.chg c9 (by omega)
    have r9 := hr.chgN c9 fun hp' b hb' => ⟨hr.lt hp' b hb', fun e => by have := hlt.2.2 hp' b hb'; omega⟩
    generalize hset H ⟨kb, 2, none⟩ (IV (v.epoch + 1)) = A9 at k9 c9 w9 l9 p9 r9 ⊢
    refine run ?_
    refine RegS.call (count2_ok (N := N) { v with epoch := v.epoch + 1 } c w l hfit.up hfit.commit hNN hll w9 r9 hlt.2.2) ?_
    rintro _ A10 ⟨c10, w10⟩
    refine run ?_
    exact ret1 ⟨rfl, (c9.mono fun b _ e => .inl e).trans c10, w10⟩
theorem refA_fit {v : BookA} {l : List Int} (h : BookFit N v) (e : (refA v l).2 = 0) : BookFit N (refA v l).1 := by
  unfold refA at e ⊢
  split at e
  · cases e
  · rename_i hh
    rw [if_neg hh]
    have := h.epoch
    exact countV_fit ⟨h.session, h.decided, by simp only; omega, h.dir, h.each, h.up, h.commit, h.com⟩
set_option maxHeartbeats 2000000 in
theorem brefresh_ok (v : BookA) (w : Sl) (l : List Int) (hn : N ≤ 255) (hll : l.length ≤ 1000000) (hw : WfO H O) (h : BkAt H O k1 k2 bb sb N T K E R down s) (hv : BkIs N s v) (hr : RowF IV 0 H w l) :
    CallsH Tryz.prog 151 [ptrD bb, w.val] H fun r H' => r = I64 (bkChange down s (refA v l).1 (refA v l).2).2 ∧ ∃ O', Step (· = k2) H O H' O' ∧ BkAt H' O' k1 k2 bb sb N T K E R down (bkChange down s (refA v l).1 (refA v l).2).1 := by
  have hfit := hv.fit
  have hb := h.blk
  obtain ⟨k3, hk3, hno⟩ := owner_new O H.size k1 k2
  refine CallsH.enter h151 Tryz.func151 rfl rfl rfl (by decide) fun u => run ?_
  refine RegS.box fun H1 x1 z1 b1 => ?_
  have b1 : Box H1 H.size 56 (ptrD bb) := ⟨b1⟩
  refine run ?_
  refine RegS.box fun H2 x2 z2 b2 => ?_
  have b2 : Box H2 H1.size 34 w.val := ⟨b2⟩
  have b1 := b1.ext x2
  have x02 := x1.trans x2
  have st2 : Step (fun _ => False) H O H2 O := x02.step hw
  have h2 : BkAt H2 O k1 k2 bb sb N T K E R down s := ⟨hb.step st2 id, st2.own hb.lt h.own, h.slot.step st2 id id, h.ne⟩
  have r2 := hr.ext x02
  have l1 := b1.lt
  have l2 := b2.lt
  refine run ?_
  refine RegS.call (change_ok (k3 := k3) v (refA v l).1 (refA v l).2 (fun _ _ => True) hn st2.wf h2 hv hk3 (fun e => refA_fit hfit e) (fun _ => trivial) (fun _ _ _ _ _ _ => trivial) (fun A OA kb c x st ow => ?_)) ?_
  · refine (refresh_fn v c w l hfit hn hll ow (b2.ext x) (b1.ext x) (r2.ext x) ⟨by omega, by omega, fun hp b hb' => by have := hr.lt hp b hb'; omega⟩).mono fun r A' hr => ?_
    obtain ⟨r1, r2, r3⟩ := hr
    exact ⟨r1, OA, r2.step st.wf fun b _ e => by
      rcases e with rfl | e | e
      · exact ow.own
      · exact (ow.ou b e).1
      · exact (ow.oc b e).1, trivial, fun _ => ⟨c, r3.blk, r3.inn⟩⟩
  rintro _ H3 ⟨rfl, O3, st3, h3, _⟩
  have st03 : Step (· = k2) H O H3 O3 := Step.drop (S := fun x => x = k2 ∨ x = k3) ((st2.mono fun x e => e.elim).trans st3) fun b hb e => e.elim id fun e => absurd e (hno b hb)
  refine run ?_
  exact ret1 ⟨rfl, O3, st03, h3⟩
/-- A holder is up. -/
def recA (N : Nat) (v : BookA) (n : Int) : BookA × Nat := if 0 ≤ n ∧ n < N then ({ v with decided := v.session, up := v.up.set n.toNat true, commit := v.commit.set n.toNat v.session }, 0) else (v, 1)
theorem recA_fit {v : BookA} {n : Int} (h : BookFit N v) : BookFit N (recA N v n).1 := by
  unfold recA
  split
  · refine ⟨h.session, h.session, h.epoch, h.dir, h.each, by simp [h.up], by simp [h.commit], fun y hy => ?_⟩
    rcases List.mem_or_eq_of_mem_set hy with h1 | h1
    · exact h.com _ h1
    · rw [h1]; exact h.session
  · exact h
set_option maxHeartbeats 4000000 in
theorem recover_fn {lb pb kb lo : Nat} {x : Value} {d : Bool} (v : BookA) (c : BookS) (n : Int) (hfit : BookFit N v) (hb : BookOw H O lo k3 kb v c) (hl : Box H lb 3 (IV n)) (hp : Box H pb 56 (ptrD bb)) (hbk : Blk H bb 127 [I64 N, I64 T, I64 K, I64 E, I64 R, x, .bool d])
    (hlt : lb < lo ∧ pb < lo ∧ bb < lo) :
    CallsH Tryz.prog 219 [ptrD kb, ptrD pb, ptrD lb] H fun r H' => r = I64 (recA N v n).2 ∧ Chg (fun b => b = kb ∨ c.up.blk = some b ∨ c.com.blk = some b) H H' ∧ BookOw H' O lo k3 kb (recA N v n).1 c := by
  have hkb := hb.blk
  have hge := hb.ge
  have hul := hfit.up
  have hcl := hfit.commit
  have hu : RowF Value.bool false H c.up v.up := OwnR.rowF hb.up
  have hc : RowF IV 0 H c.com v.commit := OwnR.rowF hb.com
  refine CallsH.enter h219 Tryz.func219 rfl rfl rfl (by decide) fun u => run ?_
  refine RegS.call (bthere_ok n hbk) ?_
  rintro _ _ ⟨rfl, rfl⟩
  by_cases hn : 0 ≤ n ∧ n < N
  case neg =>
    rw [dec_neg hn, recA, if_neg hn]
    refine run ?_
    exact ret1 ⟨rfl, Chg.refl _ _, hb⟩
  rw [dec_pos hn, recA, if_pos hn]
  obtain ⟨n, rfl⟩ := Int.eq_ofNat_of_zero_le hn.1
  rw [Int.toNat_natCast]
  have hn2 : n < N := by omega
  refine run ?_
  have gU : ∀ b, c.up.blk = some b → lo ≤ b := fun b hb' => (OwnR.blk_ge hb.up hb').1
  have gC : ∀ b, c.com.blk = some b → lo ≤ b := fun b hb' => (OwnR.blk_ge hb.com hb').1
  have hnu : n < (List.map Value.bool v.up).length := by rw [List.length_map]; omega
  have hnc : n < (List.map IV v.commit).length := by rw [List.length_map]; omega
  obtain ⟨o1, c1⟩ := OwnR.set hb.up hnu (.bool true)
  have l1 := hl.chg c1 fun e => by have := gU _ e; omega
  have m1 := OwnR.chg hb.com c1 fun b hb' e => hb.uc b e hb'
  have d1 := OwnR.chg hb.dir c1 fun b hb' e => (hb.du b hb').1 e
  have k1' := hkb.chg c1 fun e => (hb.ou _ e).2 rfl
  have r1 : RowF IV 0 (hset H (c.up.cell n) (.bool true)) c.com v.commit := OwnR.rowF m1
  refine RegP.store (v := .bool true) (OwnR.wr hb.up hnu) ?_ ?_
  · exact proms2
  generalize hset H (c.up.cell n) (.bool true) = A1 at o1 c1 l1 m1 d1 k1' r1 ⊢
  refine run ?_
  obtain ⟨o2, c2⟩ := OwnR.set m1 hnc (IV v.session)
  have u2 := OwnR.chg o1 c2 fun b hb' e => hb.uc b hb' e
  have d2 := OwnR.chg d1 c2 fun b hb' e => (hb.du b hb').2 e
  have k2' := k1'.chg c2 fun e => (hb.oc _ e).2 rfl
  refine RegP.store (v := IV v.session) (OwnR.wr m1 hnc) ?_ ?_
  · exact proms2
  generalize hset A1 (c.com.cell n) (IV v.session) = A2 at o2 c2 u2 d2 k2' ⊢
  refine run ?_
  have c3 : Chg (· = kb) A2 (hset A2 ⟨kb, 1, none⟩ (IV v.session)) := hset_chg A2 ⟨kb, 1, none⟩ (IV v.session)
  have k3' : Blk (hset A2 ⟨kb, 1, none⟩ (IV v.session)) kb 55 (bookC { v with decided := v.session, up := v.up.set n true, commit := v.commit.set n v.session } c) := Blk.set (j := 1) (v := IV v.session) k2'
  have d3 := OwnR.chg d2 c3 fun b hb' => (hb.od b hb').2
  have u3 := OwnR.chg u2 c3 fun b hb' => (hb.ou b hb').2
  have m3 := OwnR.chg o2 c3 fun b hb' => (hb.oc b hb').2
  refine RegP.store (v := IV v.session) (Blk.wr k2' (j := 1) (by simp)) ?_ ?_
  · exact Proms.nil
  generalize hset A2 ⟨kb, 1, none⟩ (IV v.session) = A3 at c3 k3' d3 u3 m3 ⊢
  refine run ?_
  refine ret1 ⟨rfl, ((c1.mono fun b _ e => .inr (.inl e)).trans (c2.mono fun b _ e => .inr (.inr e))).trans (c3.mono fun b _ e => .inl e), k3', hb.own, hb.ge, d3, ?_, ?_, hb.od, hb.ou, hb.oc, hb.du, hb.uc⟩
  · rw [OwnF, List.map_set]; exact u3
  · rw [OwnF, List.map_set]; exact m3
set_option maxHeartbeats 2000000 in
theorem brecover_ok (v : BookA) (n : Int) (hn : N ≤ 255) (hw : WfO H O) (h : BkAt H O k1 k2 bb sb N T K E R down s) (hv : BkIs N s v) :
    CallsH Tryz.prog 153 [ptrD bb, IV n] H fun r H' => r = I64 (bkChange down s (recA N v n).1 (recA N v n).2).2 ∧ ∃ O', Step (· = k2) H O H' O' ∧ BkAt H' O' k1 k2 bb sb N T K E R down (bkChange down s (recA N v n).1 (recA N v n).2).1 := by
  have hfit := hv.fit
  have hb := h.blk
  obtain ⟨k3, hk3, hno⟩ := owner_new O H.size k1 k2
  refine CallsH.enter h153 Tryz.func153 rfl rfl rfl (by decide) fun u => run ?_
  refine RegS.box fun H1 x1 z1 b1 => ?_
  have b1 : Box H1 H.size 56 (ptrD bb) := ⟨b1⟩
  refine run ?_
  refine RegS.box fun H2 x2 z2 b2 => ?_
  have b2 : Box H2 H1.size 3 (IV n) := ⟨b2⟩
  have b1 := b1.ext x2
  have x02 := x1.trans x2
  have st2 : Step (fun _ => False) H O H2 O := x02.step hw
  have h2 : BkAt H2 O k1 k2 bb sb N T K E R down s := ⟨hb.step st2 id, st2.own hb.lt h.own, h.slot.step st2 id id, h.ne⟩
  have l1 := b1.lt
  have l2 := b2.lt
  have lb := hb.lt
  refine run ?_
  refine RegS.call (change_ok (k3 := k3) v (recA N v n).1 (recA N v n).2 (fun _ _ => True) hn st2.wf h2 hv hk3 (fun _ => recA_fit hfit) (fun _ => trivial) (fun _ _ _ _ _ _ => trivial) (fun A OA kb c x st ow => ?_)) ?_
  · refine (recover_fn v c n hfit ow (b2.ext x) (b1.ext x) (h2.blk.ext x) ⟨by omega, by omega, by omega⟩).mono fun r A' hr => ?_
    obtain ⟨r1, r2, r3⟩ := hr
    exact ⟨r1, OA, r2.step st.wf fun b _ e => by
      rcases e with rfl | e | e
      · exact ow.own
      · exact (ow.ou b e).1
      · exact (ow.oc b e).1, trivial, fun _ => ⟨c, r3.blk, r3.inn⟩⟩
  rintro _ H3 ⟨rfl, O3, st3, h3, _⟩
  have st03 : Step (· = k2) H O H3 O3 := Step.drop (S := fun x => x = k2 ∨ x = k3) ((st2.mono fun x e => e.elim).trans st3) fun b hb e => e.elim id fun e => absurd e (hno b hb)
  refine run ?_
  exact ret1 ⟨rfl, O3, st03, h3⟩
end Go.Proofs.YtaikdcnifijcoaaGreat
