/-
  The walks of a map's keys, in order.
-/
import Derived.Test.YtgmemfcfjlndoaaGreatVcMap
import Derived.Test.YtgmemfcfjlndoaaGreatVSort
import Derived.Test.YtgmemfcfjlndoaaGreatVRef10
set_option linter.unusedVariables false
set_option linter.unusedSimpArgs false
namespace Go.Proofs.YtgmemfcfjlndoaaGreat
open Go Go.Vc

theorem keys_ok (b : Nat) (H : Heap) : CallsH Tryz.prog 117 [.map (some b)] H fun v H' => v = .func (.func 180) #[] #[.pointer (some ⟨H.size, 0, none⟩)] ∧ Box H' H.size 100 (.map (some b)) ∧ Ext H H' := by
  refine CallsH.enter h117 Tryz.func117 rfl rfl rfl (by decide) fun u => go ?_
  refine RegS.box (fun H1 e1 z1 b1 => ?_)
  have c1 : Box H1 H.size 100 (.map (some b)) := ⟨b1⟩
  refine go ?_
  exact ret1 ⟨rfl, c1, e1⟩
def keyStep (todo : KV) (vs : List Value) (todo' : KV) : Prop := ∃ p ∈ todo, vs = [IK p.1] ∧ todo' = todo.filter fun q => q.1 ≠ p.1
theorem keys_iter (b c : Nat) (l : KV) (ob : Obj) (hob : ∀ A : Heap, A[b]? = some ob → MapI A b l) :
    IterG Tryz.prog 180 [.pointer (some ⟨c, 0, none⟩)] l keyStep (fun t => t = []) (fun A => Box A c 100 (.map (some b)) ∧ A[b]? = some ob) := by
  intro y J Jx H hpre hJ hJx hY h0
  obtain ⟨p1, p2⟩ := hpre _ _ h0
  refine CallsH.enter h180 Tryz.func180 rfl rfl rfl (by decide) fun u => go ?_
  refine RegS.rangeMap (hob _ p2) fun H1 m1 x1 z1 => ?_
  have h1 := hJ _ _ _ h0 (.ext x1)
  refine go ?_
  refine Wp.loop (ι := KV) (fun t => [(0, .func (.yield y) #[] #[]), (5, .pointer (some ⟨H.size, 0, none⟩))]) (fun t A => J t A ∧ ∃ cur, MIter A H.size b l t cur) (fun t => t.length) l subs ⟨h1, none, m1⟩ ?_
  rintro t A ⟨hJA, cur, mA⟩
  refine go ?_
  refine RegS.nextMap mA (fun h => ?_) fun p H2 hp m2 k2 => ?_ <;> refine go ?_
  · exact ret0n (.inl ⟨t, h, hJA⟩)
  have hJ2 := hJ _ _ _ hJA k2
  refine RegS.entryMap m2 ?_
  refine go ?_
  refine RegS.yieldC (hY t _ H2 _ ⟨p, hp, rfl, rfl⟩ hJ2) ?_
  rintro v H3 ⟨hc, ⟨rfl, hJ3⟩ | ⟨rfl, hJ3⟩⟩ <;> refine go ?_
  · have hb2 := (hpre _ _ hJ2).2
    have hb3 := (hpre _ _ hJ3).2
    obtain ⟨ob', ho, hn⟩ := m2.obj
    have m3 := m2.get (hb3.trans hb2.symm) ((hc.get _ _ (Nat.le_refl _) ho hn).trans ho.symm)
    refine roundQ_n (t.filter fun q => q.1 ≠ p.1) subs ⟨hJ3, _, m3⟩ ?_
    have hlt : (t.filter fun q => decide (q.1 ≠ p.1)).length < t.length := by
      refine Nat.lt_of_le_of_ne (List.length_filter_le _ _) fun e => ?_
      have := List.length_filter_eq_length_iff.1 e p hp
      simp at this
    exact hlt
  · exact ret0 (.inr hJ3)
theorem OwnR.calm {A D : Heap} {B base : Nat} {e : TypeId} {size : Nat} {s : Sl} {xs : List Value} (h : OwnR A base e size s xs) (c : Chg (fun b => s.blk = some b) A D) : CalmH B A D :=
  c.calm fun b hs _ o ho => by
    rcases h.2 with h2 | ⟨g, cur, ha, hg, hh, _⟩
    · simp [Sl.blk, h2] at hs
    · simp [Sl.blk, ha] at hs
      subst hs
      rw [hh] at ho
      cases ho
      exact ⟨_, _, _, rfl⟩
theorem perm_step {ks : List Int} {t : KV} {p : Int × Value} {all : List Int} (h : (ks ++ t.map (·.1)).Perm all) (hall : all.Nodup) (hp : p ∈ t) : ((ks ++ [p.1]) ++ (t.filter fun q => q.1 ≠ p.1).map (·.1)).Perm all := by
  refine List.Perm.trans ?_ h
  rw [List.append_assoc]
  refine List.Perm.append_left ks ?_
  have hnd : (t.map (·.1)).Nodup := ((List.nodup_append.1 (h.nodup_iff.2 hall)).2.1)
  clear h
  induction t with
  | nil => cases hp
  | cons a r ih =>
    simp only [List.map_cons, List.nodup_cons] at hnd
    rcases List.mem_cons.1 hp with rfl | hp'
    · have e : ((p :: r).filter fun q => decide (q.1 ≠ p.1)) = r := by
        rw [List.filter_cons_of_neg (by simp)]
        refine List.filter_eq_self.2 fun q hq => ?_
        have : q.1 ≠ p.1 := fun e => hnd.1 (e ▸ List.mem_map.2 ⟨q, hq, rfl⟩)
        simpa using this
      rw [e]
      simp
    · have hne : a.1 ≠ p.1 := fun e => hnd.1 (e ▸ List.mem_map.2 ⟨p, hp', rfl⟩)
      rw [List.filter_cons_of_pos (by simpa using hne)]
      refine List.Perm.trans ?_ (List.Perm.cons a.1 (ih hp' hnd.2))
      simp only [List.map_cons, List.singleton_append]
      exact List.Perm.swap _ _ _
theorem appendSeq_ok (b c : Nat) (l : KV) (H : Heap) (hm : MapI H b l) (hc : Box H c 100 (.map (some b))) (hl : l.length ≤ 1000000) :
    CallsH Tryz.prog 234 [Sl.nil.val, .func (.func 180) #[] #[.pointer (some ⟨c, 0, none⟩)]] H fun v H' => ∃ (s : Sl) (ks : List Int), v = s.val ∧ OwnF IV H' H.size 3 s ks ∧ ks.Perm (l.map (·.1)) ∧ Ext H H' := by
  refine CallsH.enter h234 Tryz.func234 rfl rfl rfl (by decide) fun u => go ?_
  refine RegS.box (fun H1 e1 z1 b1 => ?_)
  have c1 : Box H1 H.size 34 Sl.nil.val := ⟨b1⟩
  have hc1 := hc.ext e1
  obtain ⟨es, clock, k1, k2, k3⟩ := (hm.ext e1).at_
  have hkn := hm.keys
  have hlc := hc.lt
  have hlm := hm.lt
  refine go ?_
  refine Wp.rangeG (keys_iter b c l (.map es clock) fun A h => ⟨⟨es, clock, h, k2, k3⟩, hm.wf⟩) (fun vs => [(2, .pointer (some ⟨H.size, 0, none⟩)), (5, vs.getD 0 undef)])
    (fun t A => Ext H A ∧ Chg (fun b => b = H.size) H1 A ∧ ∃ (s : Sl) (ks : List Int), Box A H.size 34 s.val ∧ OwnF IV A H1.size 3 s ks ∧ (ks ++ t.map (·.1)).Perm (l.map (·.1)))
    (fun e A => False) ?_ ?_ ?_ ?_ ?_ ?_ ?_ ?_ ?_
  · rintro t A ⟨i1, i2, _⟩
    exact ⟨hc1.chg i2 (by omega), (i2.get b (by omega) (by omega)).trans k1⟩
  · rintro t A A' ⟨i1, i2, s, ks, i3, i4, i5⟩ kk
    exact ⟨kk.above i1 (by omega), kk.turn i2 (Nat.le_refl _), s, ks, i3.keep kk, i4.keep kk, i5⟩
  · rintro e A A' h; exact h.elim
  · rintro t vs t' ⟨p, hp, rfl, rfl⟩; rfl
  · exact ⟨e1, Chg.refl _ _, Sl.nil, [], c1, OwnR.nil _ _ _ _, by simp⟩
  · rintro u l t t' A vs ⟨p, hp, rfl, rfl⟩ _
    refine go ?_
    exact ⟨rfl, rfl, rfl, rfl, rfl, trivial⟩
  · rintro u y t t' A vs nA ⟨p, hp, rfl, rfl⟩ ⟨i1, i2, s, ks, i3, i4, i5⟩
    have hkl : ks.length ≤ 1000000 := by have := i5.length_eq; simp only [List.length_append, List.length_map] at this; omega
    show Wp _ _ _ [(2, .pointer (some ⟨H.size, 0, none⟩)), (5, IK p.1)] _ _
    refine go ?_
    refine RegS.buildSlice fun A2 o2 y2 w2 => ?_
    have r2 : RowF IV 0 A2 (Sl.fresh A.size 1) [p.1] := OwnR.rowF (f := IV) (l := [p.1]) o2
    have i3' := i3.ext y2
    have i4' := i4.ext y2
    have hlt := i3.lt
    refine go ?_
    refine RegS.append (f := IV) i4' r2 (fun _ => rfl) (by have := e1.size; have := y2.size; omega) ?_ ?_ ?_
    · simp only [List.length_singleton]; omega
    · simp only [List.length_singleton]; omega
    intro s' A3 o3 c3 b3
    have i33 : Box A3 H.size 34 s.val := i3'.chg c3 fun hb => by have := (i4'.blk_ge hb).1; omega
    refine go ?_
    refine RegS.store (v := s'.val) i33.wr ?_
    have c4 := hset_chg A3 ⟨H.size, 0, none⟩ s'.val
    have hs3 := c3.size
    refine go ?_
    refine bodyG_n ((y2.calm.trans (OwnR.calm i4' c3)).trans (c4.calm fun b hb hle => by simp at hb; omega)) ⟨?_, ?_, s', ks ++ [p.1], i33.set, ?_, perm_step i5 hkn hp⟩
    · exact ((i1.trans y2).then c3 fun b hb => by have := (i4'.blk_ge hb).1; omega).then c4 fun b hb => by simp at hb; omega
    · refine ⟨Nat.le_trans i2.size (Nat.le_trans y2.size (Nat.le_trans c3.size c4.size)), fun b hb hne => ?_⟩
      have q1 := i2.get b hb hne
      have q2 := y2.get b (by have := i2.size; omega)
      have q3 := c3.get b (by have := i2.size; have := y2.size; omega) fun hb3 => by have := (i4'.blk_ge hb3).1; omega
      have q4 := c4.get b (by have := i2.size; have := y2.size; omega) fun hb4 => hne (by simpa using hb4)
      exact q4.trans (q3.trans (q2.trans q1))
    · exact OwnR.chg o3 c4 fun b hb hb' => by have := (o3.blk_ge hb).1; simp at hb'; omega
  · rintro t A D hD rfl ⟨i1, i2, s, ks, i3, i4, i5⟩ hDf
    refine go ?_
    have kk : Keep H1.size A (A.setIfInBounds D (.deferred none)) := .put hD hDf (by intros; simp)
    exact ret1d hDf ⟨s, ks, rfl, (i4.keep kk).low (by have := e1.size; omega), by simpa using i5, kk.above i1 (by have := e1.size; omega)⟩
  · rintro e A D hD h; exact h.elim
theorem collect_ok (b c : Nat) (l : KV) (H : Heap) (hm : MapI H b l) (hc : Box H c 100 (.map (some b))) (hl : l.length ≤ 1000000) :
    CallsH Tryz.prog 178 [.func (.func 180) #[] #[.pointer (some ⟨c, 0, none⟩)]] H fun v H' => ∃ (s : Sl) (ks : List Int), v = s.val ∧ OwnF IV H' H.size 3 s ks ∧ ks.Perm (l.map (·.1)) ∧ Ext H H' := by
  refine CallsH.enter h178 Tryz.func178 rfl rfl rfl (by decide) fun u => go ?_
  refine RegS.call (appendSeq_ok b c l H hm hc hl) ?_
  rintro _ H1 ⟨s, ks, rfl, o, p, x⟩
  refine go ?_
  exact ret1 ⟨s, ks, rfl, o, p, x⟩
theorem sorted_perm {ks l : List Int} (h : ks.Perm l) : sorted ks = sorted l := by
  refine List.Perm.eq_of_pairwise (le := fun a b => a ≤ b) (fun a b _ _ h1 h2 => by omega) (sorted_pair ks) (sorted_pair l) ?_
  exact (List.mergeSort_perm ks _).trans (h.trans (List.mergeSort_perm l _).symm)
theorem sortedKeys_ok (b c : Nat) (l : KV) (H : Heap) (hm : MapI H b l) (hc : Box H c 100 (.map (some b))) (hl : l.length ≤ 1000000) :
    CallsH Tryz.prog 116 [.func (.func 180) #[] #[.pointer (some ⟨c, 0, none⟩)]] H fun v H' => ∃ s : Sl, v = s.val ∧ OwnF IV H' H.size 3 s (sorted (l.map (·.1))) ∧ Ext H H' := by
  refine CallsH.enter h116 Tryz.func116 rfl rfl rfl (by decide) fun u => go ?_
  refine RegS.call (collect_ok b c l H hm hc hl) ?_
  rintro _ H1 ⟨s, ks, rfl, o, p, x⟩
  have hkl := p.length_eq
  rw [List.length_map] at hkl
  refine go ?_
  refine RegS.call (sortI_ok s ks H.size 3 H1 o (by omega)) ?_
  rintro v H2 ⟨o2, c2⟩
  rw [sorted_perm p] at o2
  refine go ?_
  exact ret1 ⟨s, rfl, o2, x.then c2 fun b hb => (o.blk_ge hb).1⟩
/-- A map's rows. -/
abbrev SV := List (Int × Sl)
def sget : SV → Int → Option Sl
  | [], _ => none
  | p :: r, k => if p.1 = k then some p.2 else sget r k
def kvs (l : SV) : KV := l.map fun p => (p.1, p.2.val)
theorem mget_kvs : ∀ (l : SV) (k : Int), mget (kvs l) k = (sget l k).map Sl.val
  | [], _ => rfl
  | p :: r, k => by
    simp only [kvs, List.map_cons, mget, sget]
    split
    · rfl
    · exact mget_kvs r k
def sput : SV → Int → Sl → SV
  | [], k, v => [(k, v)]
  | p :: r, k, v => if p.1 = k then (k, v) :: r else p :: sput r k v
theorem mput_kvs : ∀ (l : SV) (k : Int) (s : Sl), mput (kvs l) k s.val = kvs (sput l k s)
  | [], _, _ => rfl
  | p :: r, k, s => by
    have ih := mput_kvs r k s
    simp only [kvs, List.map_cons, mput, sput] at ih ⊢
    split
    · rfl
    · rw [List.map_cons, ih]
theorem kvs_keys (l : SV) : (kvs l).map (·.1) = l.map (·.1) := by simp [kvs, List.map_map, Function.comp_def]
def keysOf (l : SV) : List Int := sorted (l.map (·.1))
def rowsOf (l : SV) : List Sl := (keysOf l).map fun k => (sget l k).getD Sl.nil
set_option maxHeartbeats 4000000 in
theorem inOrder_ok (b : Nat) (l : SV) (H : Heap) (hm : MapI H b (kvs l)) (hl : l.length ≤ 1000000) :
    CallsH Tryz.prog 57 [.map (some b)] H fun v H' => ∃ s t : Sl, v = .tuple #[s.val, t.val] ∧ RowF IV 0 H' s (keysOf l) ∧ RowF Sl.val Sl.nil H' t (rowsOf l) ∧ Ext H H' := by
  refine CallsH.enter h57 Tryz.func57 rfl rfl rfl (by decide) fun u => go ?_
  refine RegS.call (keys_ok b H) ?_
  rintro _ H1 ⟨rfl, hc1, x1⟩
  refine go ?_
  refine RegS.call (sortedKeys_ok b H.size (kvs l) H1 (hm.ext x1) hc1 (by simpa [kvs] using hl)) ?_
  rintro _ H2 ⟨s, rfl, o2, x2⟩
  have hkl : (keysOf l).length = l.length := by simp [keysOf, sorted_length]
  rw [kvs_keys] at o2
  have o2 : OwnF IV H2 H1.size 3 s (keysOf l) := o2
  have r2 : RowF IV 0 H2 s (keysOf l) := OwnR.rowF o2
  have m2 := (hm.ext x1).ext x2
  have x02 := x1.trans x2
  have hsl : s.len = (keysOf l).length := r2.len
  refine go ?_
  refine Wp.loop (ι := Nat × Sl) (fun i => [(0, .map (some b)), (4, s.val), (5, i.2.val), (11, s.val), (12, I64 (keysOf l).length), (13, I64 i.1)]) (fun i A => i.1 ≤ (keysOf l).length ∧ Ext H2 A ∧ OwnF Sl.val A H2.size 36 i.2 ((rowsOf l).take i.1)) (fun i => (keysOf l).length - i.1) (0, Sl.nil) subs ⟨Nat.zero_le _, Ext.refl _, OwnR.nil _ _ _ _⟩ ?_
  rintro ⟨i, a⟩ A ⟨hi, eA, hA⟩
  have hi : i ≤ (keysOf l).length := hi
  have hA : OwnF Sl.val A H2.size 36 a ((rowsOf l).take i) := hA
  have eA : Ext H2 A := eA
  have zA := eA.size
  have rA := r2.ext eA
  have mA := m2.ext eA
  have hrl : (rowsOf l).length = (keysOf l).length := by simp [rowsOf]
  show Wp _ _ _ [(0, .map (some b)), (4, s.val), (5, a.val), (11, s.val), (12, I64 (keysOf l).length), (13, I64 i)] _ _
  refine go ?_
  refine Wp.br (fun h => ?_) (fun h => ?_)
  case refine_2 =>
    have h : ¬ (i : Int) < ((keysOf l).length : Int) := h
    have hie : i = (keysOf l).length := by omega
    refine go ?_
    subst hie
    rw [← hrl, List.take_length] at hA
    exact ret2 ⟨s, a, rfl, rA, OwnR.rowF hA, x02.trans eA⟩
  have h : (i : Int) < ((keysOf l).length : Int) := h
  have hmem : (keysOf l).getD i 0 ∈ l.map (·.1) := by
    have : (keysOf l).getD i 0 ∈ keysOf l := by
      rw [List.getD_eq_getElem?_getD, List.getElem?_eq_getElem (show i < (keysOf l).length by omega)]
      exact List.getElem_mem _
    exact (sorted_mem _ _).1 this
  have hwf : i64 ((keysOf l).getD i 0) := by
    obtain ⟨q, hq, e⟩ := List.mem_map.1 hmem
    rw [← e]
    exact hm.wf (q.1, q.2.val) (List.mem_map.2 ⟨q, hq, rfl⟩)
  refine go ?_
  refine RegS.lookup1 mA hwf ?_
  have hval : (mget (kvs l) ((keysOf l).getD i 0)).getD Sl.nil.val = ((sget l ((keysOf l).getD i 0)).getD Sl.nil).val := by
    rw [mget_kvs]
    cases sget l ((keysOf l).getD i 0) <;> rfl
  rw [show (Value.slice none 0 0) = Sl.nil.val from rfl, hval]
  have hrow : (rowsOf l).getD i Sl.nil = (sget l ((keysOf l).getD i 0)).getD Sl.nil := by
    simp [rowsOf, List.getD_eq_getElem?_getD, List.getElem?_eq_getElem (show i < (keysOf l).length by omega)]
  rw [← hrow]
  refine go ?_
  refine RegS.buildSlice fun A2 o3 y2 w2 => ?_
  have r3 : RowF Sl.val Sl.nil A2 (Sl.fresh A.size 1) [(rowsOf l).getD i Sl.nil] := OwnR.rowF (f := Sl.val) (l := [(rowsOf l).getD i Sl.nil]) o3
  have z2 := y2.size
  refine go ?_
  refine RegS.append (f := Sl.val) (hA.ext y2) r3 (fun _ => rfl) (by omega) ?_ ?_ ?_
  · simp only [List.length_singleton, List.length_take]; omega
  · simp only [List.length_singleton, List.length_take]; omega
  intro a' A3 hA' ca ba
  rw [← take_snoc Sl.nil (show i < (rowsOf l).length by omega)] at hA'
  refine go ?_
  exact roundQ_n (i + 1, a') subs ⟨by simp only; omega, (eA.trans y2).then ca fun x hx => (hA.blk_ge hx).1, hA'⟩ (by simp only; omega)
end Go.Proofs.YtgmemfcfjlndoaaGreat
