/-
  The walks of book.Put and book.Delete; names that rise.
-/
import Derived.Test.YtaikdcnifijcoaaGreatQ30
set_option linter.unusedVariables false
set_option linter.unusedSimpArgs false
namespace Go.Vc
section
variable {C : Cx} {ops : Array Oper} {L : Env} {ds : List Nat} {H : Heap} {Kk : Env → Heap → Prop} {o : Oper} {B : Array Nat} {p : Plan} {pend : List Rec}
theorem RegP.buildOne {i t dst : Nat} {keep : List Nat} {x : Operand} {cs : List Value} (e' : Nat) (k : ∀ H', Blk H' H.size e' cs → Ext H H' → H'.size = H.size + 1 → RegP C ops B p (pfilter keep pend) ((dst, (Sl.fresh H.size 1).val) :: L) ds H' Kk)
    (hi : ops[i]? = some o := by rfl) (ho : o.op = .buildSlice t 1 #[(0, x)] := by rfl) (hx : L.ev x = some (.agg cs.toArray) := by rfl)
    (h : ∀ w, (Instr.buildSlice t 1 #[(0, .agg cs.toArray)]).run C.P w = .ok (.slice (some ⟨w.heap.size, 0, none⟩) 1 1) { w with heap := w.heap.push (.cells cs.toArray e') } := by intro w; kernel_rfl)
    (hds : o.dst = some dst := by rfl) (hg : gd ops o L = some true := by rfl) (hdd : Nat.blt dst C.N = true := by rfl) : RegP C ops B (.e i keep p .nil) pend L ds H Kk :=
  RegP.ef (Ef.buildOne (e := e') ho hx h fun H' a b c => by rw [hds]; exact ⟨.inl b, k H' a b c⟩) hi hg (by rw [hds]; exact hdd)
end
end Go.Vc
namespace Go.Proofs.YtaikdcnifijcoaaGreat
open Go Go.Vc Go.Gf
theorem cmp_self : ∀ a : List UInt8, Lib.compareBytes a a = 0
  | [] => by simp [Lib.compareBytes]
  | a :: us => by
    unfold Lib.compareBytes
    rw [if_neg (UInt8.lt_irrefl a), if_neg (UInt8.lt_irrefl a)]
    exact cmp_self us
theorem cmp_zero : ∀ a b : List UInt8, Lib.compareBytes a b = 0 → a = b
  | [], [], _ => rfl
  | [], _ :: _, h => by simp [Lib.compareBytes] at h
  | _ :: _, [], h => by simp [Lib.compareBytes] at h
  | a :: us, b :: bs, h => by
    unfold Lib.compareBytes at h
    by_cases h1 : a < b
    · rw [if_pos h1] at h; exact absurd h (by decide)
    rw [if_neg h1] at h
    by_cases h2 : b < a
    · rw [if_pos h2] at h; exact absurd h (by decide)
    rw [if_neg h2] at h
    have e : a = b := UInt8.toNat_inj.1 (by rw [UInt8.lt_iff_toNat_lt] at h1 h2; omega)
    rw [e, cmp_zero us bs h]
theorem cmp_trans : ∀ a b c : List UInt8, Lib.compareBytes a b < 0 → Lib.compareBytes b c < 0 → Lib.compareBytes a c < 0
  | [], [], _, h, _ => by simp [Lib.compareBytes] at h
  | [], _ :: _, [], _, h => by simp [Lib.compareBytes] at h
  | [], _ :: _, _ :: _, _, _ => by simp [Lib.compareBytes]
  | _ :: _, [], _, h, _ => by simp [Lib.compareBytes] at h
  | _ :: _, _ :: _, [], _, h => by simp [Lib.compareBytes] at h
  | a :: us, b :: bs, c :: cs, h, k => by
    unfold Lib.compareBytes at h k ⊢
    simp only [UInt8.lt_iff_toNat_lt] at *
    by_cases h1 : a.toNat < b.toNat
    · by_cases k1 : b.toNat < c.toNat
      · rw [if_pos (by omega)]; decide
      · rw [if_neg k1] at k
        by_cases k2 : c.toNat < b.toNat
        · rw [if_pos k2] at k; exact absurd k (by decide)
        · rw [if_pos (by omega)]; decide
    · rw [if_neg h1] at h
      by_cases h2 : b.toNat < a.toNat
      · rw [if_pos h2] at h; exact absurd h (by decide)
      · rw [if_neg h2] at h
        by_cases k1 : b.toNat < c.toNat
        · rw [if_pos (by omega)]; decide
        · rw [if_neg k1] at k
          by_cases k2 : c.toNat < b.toNat
          · rw [if_pos k2] at k; exact absurd k (by decide)
          · rw [if_neg k2] at k
            rw [if_neg (by omega), if_neg (by omega)]
            exact cmp_trans us bs cs h k
theorem cmp_total : ∀ a b : List UInt8, ¬ Lib.compareBytes a b < 0 → Lib.compareBytes a b ≠ 0 → Lib.compareBytes b a < 0
  | [], [], _, h => absurd (by simp [Lib.compareBytes]) h
  | [], _ :: _, h, _ => absurd (by simp [Lib.compareBytes]) h
  | _ :: _, [], _, _ => by simp [Lib.compareBytes]
  | a :: us, b :: bs, h, k => by
    unfold Lib.compareBytes at h k ⊢
    simp only [UInt8.lt_iff_toNat_lt] at *
    by_cases h1 : a.toNat < b.toNat
    · rw [if_pos h1] at h; exact absurd (by decide) h
    rw [if_neg h1] at h k
    by_cases h2 : b.toNat < a.toNat
    · rw [if_pos h2]; decide
    rw [if_neg h2] at h k
    rw [if_neg h2, if_neg h1]
    exact cmp_total us bs h k
/-- Names that rise. -/
def Rises (l : List HdT) : Prop := l.Pairwise fun a b => Lib.compareBytes a.1 b.1 < 0
theorem rises_nil {l : List HdT} (h : l = []) : Rises l := by rw [h]; exact List.Pairwise.nil
theorem rises_get {l : List HdT} (h : Rises l) {p q : Nat} (hpq : p < q) (hq : q < l.length) : Lib.compareBytes (l.getD p ([], 0)).1 (l.getD q ([], 0)).1 < 0 := by
  have := List.pairwise_iff_getElem.1 h p q (by omega) hq hpq
  rwa [getD_get _ (show p < l.length by omega), getD_get _ hq]
theorem rises_search {l : List HdT} (h : Rises l) (id : List UInt8) (p q : Nat) (hpq : p ≤ q) (hq : q < l.length) (hc : Lib.compareBytes (l.getD q ([], 0)).1 id < 0) : Lib.compareBytes (l.getD p ([], 0)).1 id < 0 := by
  rcases Nat.lt_or_eq_of_le hpq with e | rfl
  · exact cmp_trans _ _ _ (rises_get h e hq) hc
  · exact hc
theorem mem_names {l : List HdT} {id : List UInt8} : id ∈ l.map (·.1) ↔ ∃ k, k < l.length ∧ (l.getD k ([], 0)).1 = id := by
  constructor
  · intro h
    obtain ⟨x, hx, rfl⟩ := List.mem_map.1 h
    obtain ⟨k, hk, rfl⟩ := List.mem_iff_getElem.1 hx
    exact ⟨k, hk, by rw [getD_get _ hk]⟩
  · rintro ⟨k, hk, rfl⟩
    exact List.mem_map.2 ⟨_, List.getElem_mem hk, by rw [getD_get _ hk]⟩
theorem stands_at {l : List HdT} {id : List UInt8} {i k : Nat} (h : Rises l) (hs : StandsAt l id i) (hk : k < l.length) (e : (l.getD k ([], 0)).1 = id) : k = i := by
  have h1 : ¬ k < i := fun hlt => by
    have := hs.2.1 k hlt
    rw [e, cmp_self] at this
    exact absurd this (by decide)
  by_cases h2 : i < k
  · have := rises_get h h2 hk
    rw [e] at this
    exact absurd this (hs.2.2 i (Nat.le_refl _) (by omega))
  · omega
theorem stands_has {l : List HdT} {id : List UInt8} {i : Nat} (h : Rises l) (hs : StandsAt l id i) : (i < l.length ∧ Lib.compareBytes (l.getD i ([], 0)).1 id = 0) ↔ id ∈ l.map (·.1) := by
  rw [mem_names]
  constructor
  · rintro ⟨h1, h2⟩
    exact ⟨i, h1, cmp_zero _ _ h2⟩
  · rintro ⟨k, hk, e⟩
    have := stands_at h hs hk e
    subst this
    exact ⟨hk, by rw [e, cmp_self]⟩
theorem takeWhile_len {α : Type} (d : α) (P : α → Bool) : ∀ (l : List α) (i : Nat), i ≤ l.length → (∀ k, k < i → P (l.getD k d) = true) → (i < l.length → P (l.getD i d) = false) → (l.takeWhile P).length = i
  | [], i, h, _, _ => by simp at h; simp [h]
  | a :: l, 0, _, _, h => by
    have e := h (by simp)
    simp only [List.getD_cons_zero] at e
    simp [List.takeWhile, e]
  | a :: l, i + 1, h1, h2, h3 => by
    have e := h2 0 (by omega)
    simp only [List.getD_cons_zero] at e
    rw [List.takeWhile_cons, if_pos e, List.length_cons, takeWhile_len d P l i (by simpa using h1) (fun k hk => by simpa using h2 (k + 1) (by omega)) (fun hh => by simpa using h3 (by simpa using hh))]
/-- Where a name stands, or would. -/
def standI (l : List HdT) (id : List UInt8) : Nat := (l.takeWhile fun x => decide (Lib.compareBytes x.1 id < 0)).length
theorem stands_eq {l : List HdT} {id : List UInt8} {i : Nat} (hs : StandsAt l id i) : standI l id = i :=
  takeWhile_len ([], 0) _ l i hs.1 (fun k hk => decide_eq_true (hs.2.1 k hk)) fun hi => decide_eq_false (hs.2.2 i (Nat.le_refl _) hi)
theorem tw_spec {α : Type} (d : α) (P : α → Bool) : ∀ l : List α, (∀ k, k < (l.takeWhile P).length → P (l.getD k d) = true) ∧ ((l.takeWhile P).length < l.length → P (l.getD (l.takeWhile P).length d) = false)
  | [] => by simp
  | a :: l => by
    obtain ⟨h1, h2⟩ := tw_spec d P l
    by_cases e : P a = true
    · rw [List.takeWhile_cons, if_pos e]
      refine ⟨fun k hk => ?_, fun hl => ?_⟩
      · match k with
        | 0 => exact e
        | k + 1 => exact h1 k (by simpa using hk)
      · exact h2 (by simpa using hl)
    · rw [List.takeWhile_cons, if_neg e]
      exact ⟨fun k hk => absurd hk (Nat.not_lt_zero k), fun _ => by simpa using e⟩
theorem stands_I {l : List HdT} (hr : Rises l) (id : List UInt8) : StandsAt l id (standI l id) := by
  obtain ⟨h1, h2⟩ := tw_spec ([], 0) (fun x : HdT => decide (Lib.compareBytes x.1 id < 0)) l
  refine ⟨(List.takeWhile_prefix _).length_le, fun k hk => of_decide_eq_true (h1 k hk), fun k hk hl hc => ?_⟩
  exact of_decide_eq_false (h2 (Nat.lt_of_le_of_lt hk hl)) (rises_search hr id _ k hk hl hc)
def insA (l : List HdT) (h : HdT) : List HdT := l.take (standI l h.1) ++ h :: l.drop (standI l h.1)
theorem insA_rises {l : List HdT} {h : HdT} {i : Nat} (hr : Rises l) (hs : StandsAt l h.1 i) (hn : h.1 ∉ l.map (·.1)) : Rises (insA l h) := by
  unfold insA
  rw [stands_eq hs]
  have lo : ∀ a ∈ l.take i, Lib.compareBytes a.1 h.1 < 0 := fun a ha => by
    obtain ⟨k, hk, rfl⟩ := List.mem_iff_getElem.1 ha
    rw [List.length_take] at hk
    have := hs.2.1 k (by omega)
    rw [getD_get _ (show k < l.length by omega)] at this
    rw [List.getElem_take]
    exact this
  have hi : ∀ b ∈ l.drop i, Lib.compareBytes h.1 b.1 < 0 := fun b hb => by
    obtain ⟨k, hk, rfl⟩ := List.mem_iff_getElem.1 hb
    rw [List.length_drop] at hk
    have h1 := hs.2.2 (i + k) (by omega) (by omega)
    have h2 : (l.getD (i + k) ([], 0)).1 ≠ h.1 := fun e => hn (mem_names.2 ⟨i + k, by omega, e⟩)
    rw [getD_get _ (show i + k < l.length by omega)] at h1 h2
    rw [List.getElem_drop]
    exact cmp_total _ _ h1 fun e => h2 (cmp_zero _ _ e)
  exact List.pairwise_append.2 ⟨List.Pairwise.sublist (List.take_sublist _ _) hr, List.pairwise_cons.2 ⟨hi, List.Pairwise.sublist (List.drop_sublist _ _) hr⟩, fun a ha b hb => by
    rcases List.mem_cons.1 hb with rfl | hb
    · exact lo a ha
    · exact cmp_trans _ _ _ (lo a ha) (hi b hb)⟩
/-- An object more. -/
def putA (v : BookA) (h : HdT) (l : List Int) : BookA × Nat :=
  if h.1.length < 1 ∨ 16 < h.1.length then (v, 1) else if h.2 < 0 ∨ 256 < h.2 then (v, 8) else if h.1 ∈ v.dir.map (·.1) then (v, 9) else
  if 8 ≤ v.dir.length then (v, 7) else (countV { v with dir := insA v.dir h } l, 0)
theorem insA_length (l : List HdT) (h : HdT) : (insA l h).length = l.length + 1 := by
  unfold insA
  have : standI l h.1 ≤ l.length := (List.takeWhile_prefix _).length_le
  simp only [List.length_append, List.length_cons, List.length_take, List.length_drop]
  omega
theorem insA_mem {l : List HdT} {h x : HdT} (hx : x ∈ insA l h) : x = h ∨ x ∈ l := by
  unfold insA at hx
  rcases List.mem_append.1 hx with e | e
  · exact .inr (List.mem_of_mem_take e)
  · rcases List.mem_cons.1 e with e | e
    · exact .inl e
    · exact .inr (List.mem_of_mem_drop e)
theorem putA_fit {N : Nat} {v : BookA} {h : HdT} {l : List Int} (hf : BookFit N v) (e : (putA v h l).2 = 0) : BookFit N (putA v h l).1 := by
  unfold putA at e ⊢
  by_cases h1 : h.1.length < 1 ∨ 16 < h.1.length
  · rw [if_pos h1] at e; cases e
  rw [if_neg h1] at e ⊢
  by_cases h2 : h.2 < 0 ∨ 256 < h.2
  · rw [if_pos h2] at e; cases e
  rw [if_neg h2] at e ⊢
  by_cases h3 : h.1 ∈ v.dir.map (·.1)
  · rw [if_pos h3] at e; cases e
  rw [if_neg h3] at e ⊢
  by_cases h4 : 8 ≤ v.dir.length
  · rw [if_pos h4] at e; cases e
  rw [if_neg h4]
  refine countV_fit ⟨hf.session, hf.decided, hf.epoch, by simp only [insA_length]; omega, fun x hx => ?_, hf.up, hf.commit, hf.com⟩
  rcases insA_mem hx with rfl | hx
  · omega
  · exact hf.each x hx
theorem putA_rises {v : BookA} {h : HdT} {l : List Int} (hr : Rises v.dir) : Rises (putA v h l).1.dir := by
  unfold putA
  by_cases h1 : h.1.length < 1 ∨ 16 < h.1.length
  · rw [if_pos h1]; exact hr
  rw [if_neg h1]
  by_cases h2 : h.2 < 0 ∨ 256 < h.2
  · rw [if_pos h2]; exact hr
  rw [if_neg h2]
  by_cases h3 : h.1 ∈ v.dir.map (·.1)
  · rw [if_pos h3]; exact hr
  rw [if_neg h3]
  by_cases h4 : 8 ≤ v.dir.length
  · rw [if_pos h4]; exact hr
  rw [if_neg h4]
  exact insA_rises hr (stands_I hr h.1) h3
section
variable {H : Heap} {O : Ow} {k1 k2 k3 bb sb N T K E R : Nat} {down : Bool} {s : Slt}
theorem bfind_ok {kb : Nat} (v : BookA) (c : BookS) (id : List UInt8) (hll : v.dir.length ≤ 1000) (hm : Rises v.dir) (hb : Blk H kb 55 (bookC v c)) (hi : HRow H c.dir v.dir) :
    CallsH Tryz.prog 129 [ptrD kb, S id] H fun r H' => (∃ i : Nat, StandsAt v.dir id i ∧ r = .tuple #[I64 i, .bool (dec (id ∈ v.dir.map (·.1)))]) ∧ Ext H H' := by
  refine CallsH.enter h129 Tryz.func129 rfl rfl rfl (by decide) fun u => run ?_
  refine RegS.call (search_ok c.dir v.dir id hi hll (rises_search hm id)) ?_
  rintro _ H1 ⟨⟨i, hs, rfl⟩, x1⟩
  refine run ?_
  refine ret2 ⟨⟨i, hs, ?_⟩, x1⟩
  rw [← dec_congr (stands_has hm hs)]
/-- Another directory. -/
theorem BookOw.redir {A B : Heap} {OA : Ow} {lo kb : Nat} {v : BookA} {c : BookS} {s' : Sl} {d : List HdT} (h : BookOw A OA lo k3 kb v c) (hw : WfO A OA) (o : OwnR B lo 79 2 s' (d.flatMap hdV)) (cg : Chg (fun b => c.dir.blk = some b) A B) (hb : s'.blk = c.dir.blk ∨ ∃ b, s'.blk = some b ∧ A.size ≤ b) :
    ∃ OB, Step (· = k3) A OA B OB ∧ Blk B kb 55 (bookC v c) ∧ ∀ (B' : Heap) (w : BookA), Chg (· = kb) B B' → Blk B' kb 55 (bookC w { c with dir := s' }) → w.dir = d → w.up = v.up → w.commit = v.commit → BookOw B' OB lo k3 kb w { c with dir := s' } ∧ Step (· = k3) B OB B' OB := by
  have kA := h.blk.lt
  have kB := h.blk.chg cg fun e => (h.od _ e).2 rfl
  have uB := OwnR.chg h.up cg fun b hb e => (h.du b e).1 hb
  have mB := OwnR.chg h.com cg fun b hb e => (h.du b e).2 hb
  have fin : ∀ OB, Step (· = k3) A OA B OB → (∀ b, s'.blk = some b → OB b = k3 ∧ b ≠ kb) → (∀ b, s'.blk = some b → c.up.blk ≠ some b ∧ c.com.blk ≠ some b) → ∃ OB, Step (· = k3) A OA B OB ∧ Blk B kb 55 (bookC v c) ∧ ∀ (B' : Heap) (w : BookA), Chg (· = kb) B B' → Blk B' kb 55 (bookC w { c with dir := s' }) → w.dir = d → w.up = v.up → w.commit = v.commit → BookOw B' OB lo k3 kb w { c with dir := s' } ∧ Step (· = k3) B OB B' OB := by
    intro OB st hod hdu
    refine ⟨OB, st, kB, fun B' w cB hk e1 e2 e3 => ⟨⟨hk, st.own kA h.own, h.ge, ?_, ?_, ?_, hod, fun b hb => ⟨st.own (OwnR.blk_ge h.up hb).2 (h.ou b hb).1, (h.ou b hb).2⟩, fun b hb => ⟨st.own (OwnR.blk_ge h.com hb).2 (h.oc b hb).1, (h.oc b hb).2⟩, hdu, h.uc⟩, cB.step st.wf fun x _ e => by subst e; exact st.own kA h.own⟩⟩
    · rw [e1]; exact OwnR.chg o cB fun b hb => (hod b hb).2
    · rw [e2]; exact OwnR.chg uB cB fun b hb => (h.ou b hb).2
    · rw [e3]; exact OwnR.chg mB cB fun b hb => (h.oc b hb).2
  have st : Step (· = k3) A OA B OA := cg.step hw fun x _ e => (h.od x e).1
  rcases hb with e | ⟨b, e, hz⟩
  · exact fin OA st (fun b hb => by rw [e] at hb; exact h.od b hb) fun b hb => by rw [e] at hb; exact h.du b hb
  · have hlt := (OwnR.blk_ge o e).2
    refine fin _ (st.give (p := fun x => x = b) (k := k3) fun x hx => by omega) (fun x hx => ?_) fun x hx => ?_
    · rw [e] at hx
      simp only [Option.some.injEq] at hx
      subst hx
      exact ⟨Ow.give_pos rfl, by omega⟩
    · rw [e] at hx
      simp only [Option.some.injEq] at hx
      subst hx
      exact ⟨fun q => by have := (OwnR.blk_ge h.up q).2; omega, fun q => by have := (OwnR.blk_ge h.com q).2; omega⟩
set_option maxHeartbeats 4000000 in
theorem put_fn {hb lb pb kb lo : Nat} (v : BookA) (c : BookS) (h : HdT) (w : Sl) (l : List Int) (hfit : BookFit N v) (hri : Rises v.dir) (hNN : N ≤ 255) (hll : l.length ≤ 1000000) (ho : BookOw H O lo k3 kb v c) (hh : Blk H hb 79 (hdV h)) (hl : Box H lb 34 w.val) (hp : Box H pb 56 (ptrD bb)) (hr : RowF IV 0 H w l)
    (hlt : hb < lo ∧ lb < lo ∧ pb < lo ∧ (0 < w.len → ∀ b, w.blk = some b → b < lo)) (hlo : lo ≤ H.size) (hw : WfO H O) :
    CallsH Tryz.prog 215 [ptrD kb, ptrD hb, ptrD pb, ptrD lb] H fun r H' => r = I64 (putA v h l).2 ∧ ∃ O', Step (· = k3) H O H' O' ∧ ∃ c', BookOw H' O' lo k3 kb (putA v h l).1 c' := by
  have hge := ho.ge
  have hdl := hfit.dir
  refine CallsH.enter h215 Tryz.func215 rfl rfl rfl (by decide) fun u => run ?_
  refine RegS.call (bfind_ok v c h.1 (by omega) hri ho.blk ho.inn.dir) ?_
  rintro _ H1 ⟨⟨i, hs, rfl⟩, x1⟩
  have st1 : Step (· = k3) H O H1 O := x1.step hw
  have o1 := ho.chg (x1.chg fun _ => False) fun _ _ e => e
  have h1 := hh.ext x1
  have l1 := hl.ext x1
  have p1 := hp.ext x1
  have r1 := hr.ext x1
  have z1 := x1.size
  have k1' := o1.blk
  have d1 : HRow H1 c.dir v.dir := o1.inn.dir
  refine run ?_
  refine RegS.q (h := Rd.lenS rfl rfl rfl rfl) ?_
  refine run ?_
  refine RegS.sp (fun g1 => ?_) (fun g1 => ?_) <;> refine run ?_
  · have g1 : (h.1.length : Int) < ((1 : Nat) : Int) := g1
    rw [putA, if_pos (.inl (by omega))]
    exact ret1 ⟨rfl, O, st1, c, o1⟩
  have g1 : ¬ (h.1.length : Int) < ((1 : Nat) : Int) := g1
  refine RegS.q (h := Rd.lenS rfl rfl rfl rfl) ?_
  refine run ?_
  refine Wp.br (fun g2 => ?_) (fun g2 => ?_)
  · have g2 : (h.1.length : Int) > ((16 : Nat) : Int) := g2
    rw [putA, if_pos (.inr (by omega))]
    refine run ?_
    exact ret1 ⟨rfl, O, st1, c, o1⟩
  have g2 : ¬ (h.1.length : Int) > ((16 : Nat) : Int) := g2
  rw [putA, if_neg (by omega)]
  refine run ?_
  refine RegS.sp (fun g3 => ?_) (fun g3 => ?_) <;> refine run ?_
  · have g3 : h.2 < 0 := g3
    rw [if_pos (.inl g3)]
    exact ret1 ⟨rfl, O, st1, c, o1⟩
  have g3 : ¬ h.2 < 0 := g3
  refine Wp.br (fun g4 => ?_) (fun g4 => ?_)
  · have g4 : h.2 > ((256 : Nat) : Int) := g4
    rw [if_pos (.inr (by omega))]
    refine run ?_
    exact ret1 ⟨rfl, O, st1, c, o1⟩
  have g4 : ¬ h.2 > ((256 : Nat) : Int) := g4
  rw [if_neg (by omega)]
  refine run ?_
  refine Wp.br (fun g5 => ?_) (fun g5 => ?_)
  · have g5 : h.1 ∈ v.dir.map (·.1) := g5
    rw [if_pos g5]
    refine run ?_
    exact ret1 ⟨rfl, O, st1, c, o1⟩
  have g5 : h.1 ∉ v.dir.map (·.1) := g5
  rw [if_neg g5]
  refine run ?_
  refine Wp.br (fun g6 => ?_) (fun g6 => ?_)
  · have g6 : (v.dir.length : Int) ≥ ((8 : Nat) : Int) := g6
    rw [if_pos (by omega)]
    refine run ?_
    exact ret1 ⟨rfl, O, st1, c, o1⟩
  have g6 : ¬ (v.dir.length : Int) ≥ ((8 : Nat) : Int) := g6
  rw [if_neg (by omega)]
  refine run ?_
  refine RegP.buildOne (cs := hdV h) 79 fun H2 b2 x2 z2 => ?_
  have st2 : Step (· = k3) H1 O H2 O := x2.step st1.wf
  have o2 := o1.chg (x2.chg fun _ => False) fun _ _ e => e
  have h2 := h1.ext x2
  have l2 := l1.ext x2
  have p2 := p1.ext x2
  have r2 := r1.ext x2
  have k2' := o2.blk
  have hdg : ∀ b, c.dir.blk = some b → lo ≤ b ∧ b < H1.size := fun b hb => OwnR.blk_ge o1.dir hb
  refine run ?_
  refine RegP.call (sinsert_ok (base := lo) c.dir v.dir i h hs.1 (by omega) o2.dir (by omega) b2 fun b hb => by have := (hdg b hb).2; omega) ?_
  rintro _ H3 ⟨s', rfl, o3, c3, e3⟩
  obtain ⟨O3, st3, k3', fin⟩ := o2.redir (d := v.dir.take i ++ h :: v.dir.drop i) st2.wf o3 c3 e3
  refine ⟨.inr ?_, ?_⟩
  · exact proms2
  refine run ?_
  refine RegP.store (v := s'.val) (Blk.wr k3' (j := 3) (by simp)) ?_ ?_
  · exact proms2
  have b4 : Blk (hset H3 ⟨kb, 3, none⟩ s'.val) kb 55 (bookC { v with dir := insA v.dir h } { c with dir := s' }) := Blk.set (j := 3) (v := s'.val) k3'
  have c4 : Chg (· = kb) H3 (hset H3 ⟨kb, 3, none⟩ s'.val) := hset_chg H3 ⟨kb, 3, none⟩ s'.val
  obtain ⟨o4, st4⟩ := fin _ { v with dir := insA v.dir h } c4 b4 (by show insA v.dir h = _; unfold insA; rw [stands_eq hs]) rfl rfl
  have c24 : Chg (fun b => lo ≤ b) H2 (hset H3 ⟨kb, 3, none⟩ s'.val) := (c3.mono fun b _ e => (hdg b e).1).trans (c4.mono fun b _ e => by subst e; exact hge)
  have l4 := l2.chg c24 (by omega)
  have p4 := p2.chg c24 (by omega)
  have r4 := r2.chgN c24 fun hp b hb' => ⟨r2.lt hp b hb', by have := hlt.2.2.2 hp b hb'; omega⟩
  generalize hset H3 ⟨kb, 3, none⟩ s'.val = H4 at b4 c4 o4 st4 c24 l4 p4 r4 ⊢
  refine run ?_
  refine RegS.call (count2_ok (N := N) { v with dir := insA v.dir h } { c with dir := s' } w l hfit.up hfit.commit hNN hll o4 r4 hlt.2.2.2) ?_
  rintro _ H5 ⟨c5, o5⟩
  have st5 : Step (· = k3) H4 O3 H5 O3 := c5.step st4.wf fun b _ e => by
    rcases e with rfl | e | e
    · exact o4.own
    · exact (o4.ou b e).1
    · exact (o4.oc b e).1
  refine run ?_
  exact ret1 ⟨rfl, O3, (((st1.trans st2).trans st3).trans st4).trans st5, _, o5⟩
set_option maxHeartbeats 2000000 in
theorem bput_ok (v : BookA) (h0 : HdT) (w : Sl) (l : List Int) (hn : N ≤ 255) (hll : l.length ≤ 1000000) (hw : WfO H O) (h : BkAt H O k1 k2 bb sb N T K E R down s) (hv : BkIs N s v) (hri : Rises v.dir) (hr : RowF IV 0 H w l) :
    CallsH Tryz.prog 150 [ptrD bb, .agg #[S h0.1, IV h0.2], w.val] H fun r H' => r = I64 (bkChange down s (putA v h0 l).1 (putA v h0 l).2).2 ∧ ∃ O', Step (· = k2) H O H' O' ∧ BkAt H' O' k1 k2 bb sb N T K E R down (bkChange down s (putA v h0 l).1 (putA v h0 l).2).1 := by
  have hfit := hv.fit
  have hb := h.blk
  obtain ⟨k3, hk3, hno⟩ := owner_new O H.size k1 k2
  refine CallsH.enter h150 Tryz.func150 rfl rfl rfl (by decide) fun u => run ?_
  refine RegS.box fun H1 x1 z1 b1 => ?_
  have b1 : Box H1 H.size 56 (ptrD bb) := ⟨b1⟩
  refine run ?_
  refine RegS.boxA (cs := hdV h0) fun Ha xa za ba => ?_
  have ba : Blk Ha H1.size 79 (hdV h0) := ba
  refine run ?_
  refine RegS.box fun H2 x2 z2 b2 => ?_
  have b2 : Box H2 Ha.size 34 w.val := ⟨b2⟩
  have b1 := (b1.ext xa).ext x2
  have ba := ba.ext x2
  have x02 := (x1.trans xa).trans x2
  have st2 : Step (fun _ => False) H O H2 O := x02.step hw
  have h2 : BkAt H2 O k1 k2 bb sb N T K E R down s := ⟨hb.step st2 id, st2.own hb.lt h.own, h.slot.step st2 id id, h.ne⟩
  have r2 := hr.ext x02
  have l1 := b1.lt
  have l2 := b2.lt
  have la := ba.lt
  refine run ?_
  refine RegS.call (change_ok (k3 := k3) v (putA v h0 l).1 (putA v h0 l).2 (fun _ _ => True) hn st2.wf h2 hv hk3 (fun e => putA_fit hfit e) (fun _ => trivial) (fun _ _ _ _ _ _ => trivial) (fun A OA kb c x st ow => ?_)) ?_
  · refine (put_fn v c h0 w l hfit hri hn hll ow (ba.ext x) (b2.ext x) (b1.ext x) (r2.ext x) ⟨by omega, by omega, by omega, fun hp b hb' => by have := hr.lt hp b hb'; omega⟩ x.size st.wf).mono fun r A' hr => ?_
    obtain ⟨r1, OB, r2, c', r3⟩ := hr
    exact ⟨r1, OB, r2, trivial, fun _ => ⟨c', r3.blk, r3.inn⟩⟩
  rintro _ H3 ⟨rfl, O3, st3, h3, _⟩
  have st03 : Step (· = k2) H O H3 O3 := Step.drop (S := fun x => x = k2 ∨ x = k3) ((st2.mono fun x e => e.elim).trans st3) fun b hb e => e.elim id fun e => absurd e (hno b hb)
  refine run ?_
  exact ret1 ⟨rfl, O3, st03, h3⟩
/-- An object is there no more. -/
def delA (v : BookA) (id : List UInt8) : BookA × Nat := match v.dir.findIdx? (fun h => decide (h.1 = id)) with
  | none => (v, 10)
  | some i => if 1073741824 ≤ v.session then (v, 5) else ({ v with session := v.session + 1, decided := v.session + 1, dir := v.dir.eraseIdx i }, 0)
theorem stands_find {l : List HdT} {id : List UInt8} {i : Nat} (h : Rises l) (hs : StandsAt l id i) : l.findIdx? (fun h => decide (h.1 = id)) = if id ∈ l.map (·.1) then some i else none := by
  by_cases hm : id ∈ l.map (·.1)
  · rw [if_pos hm, List.findIdx?_eq_some_iff_getElem]
    obtain ⟨k, hk, e⟩ := mem_names.1 hm
    have := stands_at h hs hk e
    subst this
    rw [getD_get _ hk] at e
    refine ⟨hk, by simpa using e, fun j hj => ?_⟩
    have h1 := hs.2.1 j hj
    rw [getD_get _ (show j < l.length by omega)] at h1
    simp only [decide_eq_true_eq, Bool.not_eq_true, decide_eq_false_iff_not]
    intro e2
    rw [e2, cmp_self] at h1
    exact absurd h1 (by decide)
  · rw [if_neg hm, List.findIdx?_eq_none_iff]
    intro x hx
    simp only [decide_eq_false_iff_not]
    intro e
    exact hm (List.mem_map.2 ⟨x, hx, e⟩)
theorem delA_fit {v : BookA} {id : List UInt8} (hf : BookFit N v) : BookFit N (delA v id).1 := by
  unfold delA
  split
  · exact hf
  · split
    · exact hf
    · rename_i i _ h
      have := hf.session
      refine ⟨by simp only; omega, by simp only; omega, hf.epoch, ?_, fun x hx => hf.each x (List.mem_of_mem_eraseIdx hx), hf.up, hf.commit, hf.com⟩
      have := hf.dir
      have := List.length_eraseIdx_le v.dir i
      simp only
      omega
theorem delA_rises {v : BookA} {id : List UInt8} (hr : Rises v.dir) : Rises (delA v id).1.dir := by
  unfold delA
  split
  · exact hr
  · split
    · exact hr
    · exact List.Pairwise.sublist (List.eraseIdx_sublist _ _) hr
set_option maxHeartbeats 4000000 in
theorem del_fn {ib kb lo : Nat} (v : BookA) (c : BookS) (id : List UInt8) (hfit : BookFit N v) (hri : Rises v.dir) (ho : BookOw H O lo k3 kb v c) (hl : Box H ib 9 (S id)) (hlt : ib < lo) (hlo : lo ≤ H.size) (hw : WfO H O) :
    CallsH Tryz.prog 128 [ptrD kb, ptrD ib] H fun r H' => r = I64 (delA v id).2 ∧ ∃ O', Step (· = k3) H O H' O' ∧ ∃ c', BookOw H' O' lo k3 kb (delA v id).1 c' := by
  have hge := ho.ge
  have hdl := hfit.dir
  have hse := hfit.session
  refine CallsH.enter h128 Tryz.func128 rfl rfl rfl (by decide) fun u => run ?_
  refine RegS.call (bfind_ok v c id (by omega) hri ho.blk ho.inn.dir) ?_
  rintro _ H1 ⟨⟨i, hs, rfl⟩, x1⟩
  have st1 : Step (· = k3) H O H1 O := x1.step hw
  have o1 := ho.chg (x1.chg fun _ => False) fun _ _ e => e
  have hfi := stands_find hri hs
  refine run ?_
  refine Wp.br (fun g1 => ?_) (fun g1 => ?_)
  · have g1 : ¬ id ∈ v.dir.map (·.1) := g1
    rw [if_neg g1] at hfi
    rw [show delA v id = (v, 10) by unfold delA; rw [hfi]]
    refine run ?_
    exact ret1 ⟨rfl, O, st1, c, o1⟩
  have g1 : id ∈ v.dir.map (·.1) := Classical.not_not.1 g1
  rw [if_pos g1] at hfi
  have hi : i < v.dir.length := ((stands_has hri hs).2 g1).1
  refine run ?_
  refine RegS.call (bnext_ok v c hse o1.blk) ?_
  rintro _ H2 ⟨rfl, c2, b2⟩
  obtain ⟨e1, e2, e3⟩ := nextA_rows v
  have o2 := o1.turn c2 b2 e1 e2 e3
  have st2 : Step (· = k3) H1 O H2 O := o1.stp st1.wf c2
  refine run ?_
  by_cases g2 : 1073741824 ≤ v.session
  · rw [show delA v id = (v, 5) by unfold delA; rw [hfi]; exact if_pos g2]
    rw [show nextA v = (v, 5) from if_pos g2] at o2 ⊢
    refine run ?_
    exact ret1 ⟨rfl, O, st1.trans st2, c, o2⟩
  rw [show delA v id = ({ v with session := v.session + 1, decided := v.session + 1, dir := v.dir.eraseIdx i }, 0) by unfold delA; rw [hfi]; exact if_neg g2]
  rw [show nextA v = ({ v with session := v.session + 1 }, 0) from if_neg g2] at o2 b2 ⊢
  have b2 : Blk H2 kb 55 (bookC { v with session := v.session + 1 } c) := b2
  have o2 : BookOw H2 O lo k3 kb { v with session := v.session + 1 } c := o2
  have z1 := x1.size
  have z2 := c2.size
  refine run ?_
  refine RegS.call (sdelete_ok (base := lo) c.dir v.dir i hi (by omega) o2.dir) ?_
  rintro _ H3 ⟨s', rfl, o3, c3, e3⟩
  obtain ⟨O3, st3, k3', fin⟩ := o2.redir (d := v.dir.take i ++ v.dir.drop (i + 1)) st2.wf o3 c3 (.inl e3)
  refine run ?_
  refine RegS.store (v := s'.val) (Blk.wr k3' (j := 3) (by simp)) ?_
  have b4 : Blk (hset H3 ⟨kb, 3, none⟩ s'.val) kb 55 (bookC { v with session := v.session + 1, dir := v.dir.eraseIdx i } { c with dir := s' }) := Blk.set (j := 3) (v := s'.val) k3'
  have c4 : Chg (· = kb) H3 (hset H3 ⟨kb, 3, none⟩ s'.val) := hset_chg H3 ⟨kb, 3, none⟩ s'.val
  generalize hset H3 ⟨kb, 3, none⟩ s'.val = H4 at b4 c4 ⊢
  refine run ?_
  refine RegS.store (v := IV (v.session + 1)) (Blk.wr b4 (j := 1) (by simp)) ?_
  have b5 : Blk (hset H4 ⟨kb, 1, none⟩ (IV (v.session + 1))) kb 55 (bookC { v with session := v.session + 1, decided := v.session + 1, dir := v.dir.eraseIdx i } { c with dir := s' }) := Blk.set (j := 1) (v := IV (v.session + 1)) b4
  have c5 : Chg (· = kb) H4 (hset H4 ⟨kb, 1, none⟩ (IV (v.session + 1))) := hset_chg H4 ⟨kb, 1, none⟩ (IV (v.session + 1))
  generalize hset H4 ⟨kb, 1, none⟩ (IV (v.session + 1)) = H5 at b5 c5 ⊢
  obtain ⟨o5, st5⟩ := fin H5 { v with session := v.session + 1, decided := v.session + 1, dir := v.dir.eraseIdx i } (c4.trans c5) b5 (List.eraseIdx_eq_take_drop_succ _ _) rfl rfl
  refine run ?_
  exact ret1 ⟨rfl, O3, ((st1.trans st2).trans st3).trans st5, _, o5⟩
set_option maxHeartbeats 2000000 in
theorem bdel_ok (v : BookA) (id : List UInt8) (hn : N ≤ 255) (hw : WfO H O) (h : BkAt H O k1 k2 bb sb N T K E R down s) (hv : BkIs N s v) (hri : Rises v.dir) :
    CallsH Tryz.prog 67 [ptrD bb, S id] H fun r H' => r = I64 (bkChange down s (delA v id).1 (delA v id).2).2 ∧ ∃ O', Step (· = k2) H O H' O' ∧ BkAt H' O' k1 k2 bb sb N T K E R down (bkChange down s (delA v id).1 (delA v id).2).1 := by
  have hfit := hv.fit
  have hb := h.blk
  obtain ⟨k3, hk3, hno⟩ := owner_new O H.size k1 k2
  refine CallsH.enter h67 Tryz.func67 rfl rfl rfl (by decide) fun u => run ?_
  refine RegS.box fun H1 x1 z1 b1 => ?_
  have b1 : Box H1 H.size 9 (S id) := ⟨b1⟩
  have l1 := b1.lt
  have st2 : Step (fun _ => False) H O H1 O := x1.step hw
  have h2 : BkAt H1 O k1 k2 bb sb N T K E R down s := ⟨hb.step st2 _root_.id, st2.own hb.lt h.own, h.slot.step st2 _root_.id _root_.id, h.ne⟩
  refine run ?_
  refine RegS.call (change_ok (k3 := k3) v (delA v id).1 (delA v id).2 (fun _ _ => True) hn st2.wf h2 hv hk3 (fun _ => delA_fit hfit) (fun _ => trivial) (fun _ _ _ _ _ _ => trivial) (fun A OA kb c x st ow => ?_)) ?_
  · refine (del_fn v c id hfit hri ow (b1.ext x) (by omega) x.size st.wf).mono fun r A' hr => ?_
    obtain ⟨r1, OB, r2, c', r3⟩ := hr
    exact ⟨r1, OB, r2, trivial, fun _ => ⟨c', r3.blk, r3.inn⟩⟩
  rintro _ H3 ⟨rfl, O3, st3, h3, _⟩
  have st03 : Step (· = k2) H O H3 O3 := Step.drop (S := fun x => x = k2 ∨ x = k3) ((st2.mono fun x e => e.elim).trans st3) fun b hb e => e.elim _root_.id fun e => absurd e (hno b hb)
  refine run ?_
  exact ret1 ⟨rfl, O3, st03, h3⟩
end
end Go.Proofs.YtaikdcnifijcoaaGreat
