/-
  The law ClientTakes, walked: whatever shares come, in whatever order.
-/
import Derived.Test.YtgmemfcfjlndoaaGreatVClient5
import Derived.Test.YtgmemfcfjlndoaaGreatVLaw20
import Derived.Test.YtgmemfcfjlndoaaGreatVRef11b
import Derived.Test.YtgmemfcfjlndoaaGreatVMsgL
set_option linter.unusedVariables false
set_option linter.unusedSimpArgs false
namespace Go.Proofs.YtgmemfcfjlndoaaGreat
open Go Go.Vc Go.Gf

theorem out20e {H A : Heap} (x : Ext H A) : CallsH Tryz.prog 11 [] A fun v H' => v = .bool true ∧ Ext H H' :=
  (answers20_ok A).mono fun v H' h => ⟨h.1, x.trans h.2⟩
theorem dff20 : dec (false ≠ false) = false := dec_neg (by simp)
theorem dtt20 : dec (true ≠ true) = false := dec_neg (by simp)
/-- Keys that are there, rising. -/
def thereC (c : CV) (h : Nat) : List Nat := (List.range h).filter fun k => (cget c k).isSome
theorem thereC_no {c : CV} {h : Nat} (hk : (cget c h).isSome = false) : thereC c (h + 1) = thereC c h := by
  unfold thereC; rw [List.range_succ, List.filter_append]; simp [hk]
theorem thereC_yes {c : CV} {h : Nat} (hk : (cget c h).isSome = true) : thereC c (h + 1) = thereC c h ++ [h] := by
  unfold thereC; rw [List.range_succ, List.filter_append]; simp [hk]
theorem thereC_le (c : CV) (h : Nat) : (thereC c h).length ≤ h := by
  have := List.length_filter_le (fun k => (cget c (k : Nat)).isSome) (List.range h)
  simpa [thereC] using this
theorem cget_some {c : CV} {k : Int} : (cget c k).isSome = true ↔ k ∈ c.map (·.1) := by
  induction c with
  | nil => simp [cget]
  | cons a r ih =>
    simp only [cget, List.map_cons, List.mem_cons]
    by_cases e : a.1 = k
    · rw [if_pos e]; simp [e]
    · rw [if_neg e, ih]
      exact ⟨.inr, fun h => h.resolve_left fun e' => e e'.symm⟩
theorem keysC_eq {c : CV} {N : Nat} (hk : ∀ p ∈ c, 0 ≤ p.1 ∧ p.1 < N) (hn : (c.map (·.1)).Nodup) : keysC c = (thereC c N).map fun (n : Nat) => (n : Int) := by
  have p1 : (keysC c).Perm (c.map (·.1)) := List.mergeSort_perm _ _
  have n2 : ((thereC c N).map fun (n : Nat) => (n : Int)).Nodup :=
    List.Pairwise.map (R := fun a b => a ≠ b) _ (fun a b h e => h (by exact Int.ofNat_inj.1 e)) (List.nodup_range.filter _)
  have p2 : (c.map (·.1)).Perm ((thereC c N).map fun (n : Nat) => (n : Int)) := by
    refine (List.perm_ext_iff_of_nodup hn n2).2 fun x => ⟨fun hx => ?_, fun hx => ?_⟩
    · obtain ⟨p, hp, rfl⟩ := List.mem_map.1 hx
      obtain ⟨h0, h1⟩ := hk p hp
      refine List.mem_map.2 ⟨p.1.toNat, List.mem_filter.2 ⟨List.mem_range.2 (by omega), ?_⟩, by omega⟩
      rw [show ((p.1.toNat : Nat) : Int) = p.1 by omega]
      exact cget_some.2 hx
    · obtain ⟨k, hm, rfl⟩ := List.mem_map.1 hx
      exact cget_some.1 (List.mem_filter.1 hm).2
  refine List.Perm.eq_of_pairwise (le := fun a b => a ≤ b) (fun a b _ _ h1 h2 => by omega) (sorted_pair _) ?_ (p1.trans p2)
  refine List.Pairwise.map _ (R := fun a b => a < b) (fun a b h => by omega) ?_
  exact List.pairwise_lt_range.filter _
def rowC (c : CV) (h : Nat) : List UInt8 := (cget c h).getD []
theorem rowsC_eq {c : CV} {N : Nat} (hk : ∀ p ∈ c, 0 ≤ p.1 ∧ p.1 < N) (hn : (c.map (·.1)).Nodup) : rowsC c = (thereC c N).map (rowC c) := by
  rw [rowsC, keysC_eq hk hn, List.map_map]; rfl
theorem cget_cadd {c : CV} {k : Int} {d : List UInt8} (q : Int) : cget (cadd c k d) q = if q = k ∧ cget c k = none then some d else cget c q := by
  have snoc : ∀ (c : CV), cget (c ++ [(k, d)]) q = (cget c q).or (if k = q then some d else none) := by
    intro c
    induction c with
    | nil => simp [cget]
    | cons a r ih =>
      simp only [List.cons_append, cget]
      by_cases e : a.1 = q
      · simp [e]
      · simp [e, ih]
  unfold cadd
  cases h : cget c k with
  | some x => simp
  | none =>
    simp only [Option.isSome_none, Bool.false_eq_true, if_false, snoc]
    by_cases e : q = k
    · subst e; simp [h]
    · rw [if_neg (show ¬ k = q from fun x => e x.symm), if_neg (fun x => e x.1)]
      cases cget c q <;> simp
theorem cadd_mem {c : CV} {k : Int} {d : List UInt8} {p : Int × List UInt8} (h : p ∈ cadd c k d) : p ∈ c ∨ p = (k, d) := by
  unfold cadd at h
  split at h
  · exact .inl h
  · rcases List.mem_append.1 h with h | h
    · exact .inl h
    · exact .inr (by simpa using h)
theorem Came.nodup {H : Heap} {b base : Nat} {l : SV} {c : CV} (h : Came H b base l c) : (c.map (·.1)).Nodup := by
  have := h.map.keys
  rw [kvs_keys, h.keys] at this
  exact this
theorem range_set {β : Type} (f g : Nat → β) {N k : Nat} (hk : k < N) (h : ∀ j, j < N → g j = if j = k then g k else f j) : ((List.range N).map f).set k (g k) = (List.range N).map g := by
  refine List.ext_getElem (by simp) fun j h1 h2 => ?_
  simp only [List.length_set, List.length_map, List.length_range] at h1
  rw [List.getElem_set]
  simp only [List.getElem_map, List.getElem_range]
  rw [h j h1]
  by_cases e : k = j
  · subst e; simp
  · rw [if_neg e, if_neg fun x => e x.symm]
/-- Two rows that grow side by side: numbers, and slices. -/
structure TwoS (P X : Heap) (a b : Sl) (la : List Nat) (lb : List Sl) : Prop where
  ext : Ext P X
  ha : OwnF I64 X P.size 3 a la
  hb : OwnF Sl.val X P.size 36 b lb
  ab : ∀ x, a.blk = some x → b.blk ≠ some x
theorem TwoS.ext' {P X Y : Heap} {a b : Sl} {la : List Nat} {lb : List Sl} (h : TwoS P X a b la lb) (e : Ext X Y) : TwoS P Y a b la lb := ⟨h.ext.trans e, h.ha.ext e, h.hb.ext e, h.ab⟩
theorem TwoS.appA {P X Y : Heap} {a b a' : Sl} {la la' : List Nat} {lb : List Sl} (h : TwoS P X a b la lb) (ha : OwnF I64 Y P.size 3 a' la') (c : Chg (fun x => a.blk = some x) X Y) (hb : a'.blk = a.blk ∨ ∃ z, a'.blk = some z ∧ X.size ≤ z) : TwoS P Y a' b la' lb :=
  ⟨h.ext.then c fun x hx => (h.ha.blk_ge hx).1, ha, h.hb.chg c fun x hx hx' => h.ab x hx' hx, fun x hx hx' => by
    rcases hb with hb | ⟨z, hb, hz⟩
    · exact h.ab x (hb ▸ hx) hx'
    · rw [hb] at hx; simp only [Option.some.injEq] at hx; have := (h.hb.blk_ge hx').2; omega⟩
theorem TwoS.appB {P X Y : Heap} {a b b' : Sl} {la : List Nat} {lb lb' : List Sl} (h : TwoS P X a b la lb) (hb : OwnF Sl.val Y P.size 36 b' lb') (c : Chg (fun x => b.blk = some x) X Y) (hbb : b'.blk = b.blk ∨ ∃ z, b'.blk = some z ∧ X.size ≤ z) : TwoS P Y a b' la lb' :=
  ⟨h.ext.then c fun x hx => (h.hb.blk_ge hx).1, h.ha.chg c fun x hx hx' => h.ab x hx hx', hb, fun x hx hx' => by
    rcases hbb with hb | ⟨z, hb, hz⟩
    · exact h.ab x hx (hb ▸ hx')
    · rw [hb] at hx'; simp only [Option.some.injEq] at hx'; have := (h.ha.blk_ge hx).2; omega⟩
set_option maxHeartbeats 16000000 in
theorem clientTakes_ok (N T K E R : Int) (s : Sl) (ls : List MsgP) (session size : Int) (H : Heap) (hs : MsgL H s ls) (hl : ls.length ≤ 9223372036854775807) (hb1 : -9223372036854775808 ≤ session ∧ session ≤ 9223372036854775807) (hb2 : -9223372036854775808 ≤ size ∧ size ≤ 9223372036854775807) (hp : ∀ x ∈ [N, T, K, E, R], -9223372036854775808 ≤ x ∧ x ≤ 9223372036854775807) :
    CallsH Tryz.prog 3 [pmI N T K E R, IV session, IV size, s.val] H (Fine20 H) := by
  refine CallsH.enter h3 Tryz.func3 rfl rfl rfl (by decide) fun u => go ?_
  refine RegS.boxA fun H0 x0 z0 b0 => ?_
  have hlen := hs.row.len
  refine go ?_
  refine RegS.call (good_ok N T K E R H0) ?_
  rintro _ H1 ⟨rfl, x1⟩
  have b1 := b0.ext x1
  have x01 := x0.trans x1
  have out : ∀ {A : Heap}, Ext H A → CallsH Tryz.prog 11 [] A fun v H' => v = .bool true ∧ Ext H H' := fun x => out20e x
  by_cases hg : GoodP N T K E R
  case neg =>
    rw [dec_neg hg]
    refine go ?_
    refine RegS.call (out x01) ?_
    rintro _ H3 ⟨rfl, e3⟩
    refine go ?_
    exact ret1 ⟨rfl, e3⟩
  rw [dec_pos hg]
  obtain ⟨g1, g2, g3, g4, g5, g6, g7⟩ := hg
  have q0 := g1 0 (by omega)
  have q1 := g1 1 (by omega)
  have q2 := g1 2 (by omega)
  have q3 := g1 3 (by omega)
  simp only [List.getD_cons_zero, List.getD_cons_succ] at q0 q1 q2 q3
  obtain ⟨N, rfl⟩ := Int.eq_ofNat_of_zero_le q0.1
  obtain ⟨T, rfl⟩ := Int.eq_ofNat_of_zero_le q1.1
  obtain ⟨K, rfl⟩ := Int.eq_ofNat_of_zero_le q2.1
  obtain ⟨E, rfl⟩ := Int.eq_ofNat_of_zero_le q3.1
  obtain ⟨R, rfl⟩ := Int.eq_ofNat_of_zero_le (show 0 ≤ R by omega)
  clear g1 hp
  obtain ⟨hrow, heach⟩ := hs
  have hrow1 := hrow.ext x01
  by_cases hN : (8 : Int) < N
  · skip
    -- [
    refine run ?_
    refine RegS.call (out x01) ?_
    rintro _ H3 ⟨rfl, e3⟩
    refine run ?_
    exact ret1 ⟨rfl, e3⟩
    -- ]
  by_cases hs0 : size < 0
  · skip
    -- [
    refine run ?_
    refine RegS.call (out x01) ?_
    rintro _ H3 ⟨rfl, e3⟩
    refine run ?_
    exact ret1 ⟨rfl, e3⟩
    -- ]
  have h3K : 3 * K ≤ 9223372036854775807 := by omega
  by_cases hs1 : ((3 * K : Nat) : Int) < size
  · skip
    -- [
    refine run ?_
    refine RegS.call (out x01) ?_
    rintro _ H3 ⟨rfl, e3⟩
    refine run ?_
    exact ret1 ⟨rfl, e3⟩
    -- ]
  by_cases hs2 : (40 : Int) < (ls.length : Nat)
  · skip
    -- [
    refine run ?_
    refine RegS.call (out x01) ?_
    rintro _ H3 ⟨rfl, e3⟩
    refine run ?_
    exact ret1 ⟨rfl, e3⟩
    -- ]
  refine run ?_
  obtain ⟨size, rfl⟩ := Int.eq_ofNat_of_zero_le (show 0 ≤ size by omega)
  refine RegS.call (clientNew_ok N T K E R H1) ?_
  rintro _ H2 ⟨cb, fb, tb, rfl, hF, bt, bc, x2, y1, y2, y3⟩
  have b2 := b1.ext x2
  have x02 := x01.trans x2
  refine run ?_
  refine RegS.call (ask_ok N T K E R fb tb cb 0 Sl.nil false 0 (.map none) session size H2 bc) ?_
  rintro _ H3 ⟨bc3, m3, c3⟩
  have lcb := bc.lt
  have hlt := bt.lt
  have s3 := c3.size
  have b3 : Blk H3 H.size 23 (pmL N T K E R) := b2.chg c3 (by have := x1.size; omega)
  have hF3 := isField_chg hF c3 (by omega)
  have x03 : Ext H H3 := x02.then c3 fun b hb => by have := x1.size; omega
  refine run ?_
  refine RegS.call (rcolumns_ok size K H3 (by omega) (by omega) (by omega)) ?_
  rintro _ _ ⟨rfl, rfl⟩
  refine RegS.r ?_
  refine RegS.fin ?_
  refine thenQ_n ?_
  refine Wp.seq ?_
  obtain ⟨cols, hcols⟩ : ∃ cols, cols = columns size K := ⟨_, rfl⟩
  rw [← hcols]
  refine Wp.mid (ι := Nat × Nat) (fun x => [(1, IV session), (2, I64 size), (3, s.val), (4, .pointer (some ⟨H.size, 0, none⟩)), (9, ptrV cb), (10, I64 cols), (11, (Sl.fresh x.1 N).val), (12, (Sl.fresh x.2 N).val)])
    (fun x A => Ext H3 A ∧ OwnF Sl.val A H3.size 36 (Sl.fresh x.1 N) (List.replicate N Sl.nil) ∧ OwnF Value.bool A H3.size 4 (Sl.fresh x.2 N) (List.replicate N false) ∧ x.1 ≠ x.2) ?_ ?_
  · refine run ?_
    refine RegP.e (RegE.makeSlice (n := N) ?_ ?_ (fun A1 o1 e1 w1 => ?_) (RegE.makeSlice (n := N) ?_ ?_ (fun A1 o1 e1 w1 => ?_) RegE.nil))
    · omega
    · omega
    · have b4 := b3.ext e1
      refine run ?_
      refine RegP.makeSlice (n := N) ?_ ?_ (fun A2 o2 e2 w2 => ?_)
      · omega
      · omega
      refine run ?_
      refine midQ_n (H3.size, A1.size) subs ⟨e1.trans e2, ?_, ?_, by simp only; omega⟩
      · rw [OwnF, List.map_replicate]; exact (OwnR.ext o1 e2)
      · rw [OwnF, List.map_replicate]; exact OwnR.low o2 (by omega)
    · omega
    · omega
    · have b4 := b3.ext e1
      refine run ?_
      refine RegP.makeSlice (n := N) ?_ ?_ (fun A2 o2 e2 w2 => ?_)
      · omega
      · omega
      refine run ?_
      refine midQ_n (A1.size, H3.size) subs ⟨e1.trans e2, ?_, ?_, by simp only; omega⟩
      · rw [OwnF, List.map_replicate]; exact OwnR.low o2 (by omega)
      · rw [OwnF, List.map_replicate]; exact (OwnR.ext o1 e2)
  rintro ⟨rb, hb⟩ H4 ⟨x4, or4, oh4, hne⟩
  have or4 : OwnF Sl.val H4 H3.size 36 (Sl.fresh rb N) (List.replicate N Sl.nil) := or4
  have oh4 : OwnF Value.bool H4 H3.size 4 (Sl.fresh hb N) (List.replicate N false) := oh4
  have hne : rb ≠ hb := hne
  show Wp _ _ _ [(1, IV session), (2, I64 size), (3, s.val), (4, .pointer (some ⟨H.size, 0, none⟩)), (9, ptrV cb), (10, I64 cols), (11, (Sl.fresh rb N).val), (12, (Sl.fresh hb N).val)] _ _
  have x04 := x03.trans x4
  have s4 := x4.size
  have lmb := m3.lt
  have s12 := x2.size
  have lp := b3.lt
  have hz1 := x01.size
  have hz0 := x1.size
  have hcle := columns_le (size := size) (K := K) (by omega)
  obtain ⟨mb, hmb⟩ : ∃ mb, mb = H2.size := ⟨_, rfl⟩
  rw [← hmb] at bc3 m3
  have hlr := OwnR.blk_ge or4 (b := rb) rfl
  have hlh := OwnR.blk_ge oh4 (b := hb) rfl
  refine run ?_
  refine Wp.loop (ι := Nat × CV × SV × List Sl) (fun i => [(1, IV session), (2, I64 size), (3, s.val), (4, .pointer (some ⟨H.size, 0, none⟩)), (9, ptrV cb), (10, I64 cols), (11, (Sl.fresh rb N).val), (12, (Sl.fresh hb N).val), (13, I64 i.1)])
    (fun i A => i.1 ≤ ls.length ∧ Ext H A ∧ Blk A H.size 23 (pmL N T K E R) ∧ Blk A cb 104 (clientC N T K E R fb tb session Sl.nil true size (.map (some mb))) ∧ IsField A fb ∧ Came A mb H4.size i.2.2.1 i.2.1 ∧
      OwnF Sl.val A H3.size 36 (Sl.fresh rb N) i.2.2.2 ∧ (∀ k, k < N → Bytes H (i.2.2.2.getD k Sl.nil) (rowC i.2.1 k)) ∧ OwnF Value.bool A H3.size 4 (Sl.fresh hb N) ((List.range N).map fun (h : Nat) => (cget i.2.1 h).isSome) ∧
      (∀ p ∈ i.2.1, 0 ≤ p.1 ∧ p.1 < N ∧ p.2.length = cols) ∧ i.2.1.length ≤ i.1 ∧ i.2.2.2.length = N ∧ H4.size ≤ A.size) (fun i => ls.length - i.1) (0, [], [], List.replicate N Sl.nil) subs
    ⟨Nat.zero_le _, x04, b3.ext x4, bc3.ext x4, hF3.ext x4, Came.nil (m3.ext x4), or4, fun k hk => by simp [rowC, cget, List.getD_eq_getElem?_getD, hk]; exact Bytes.nil _, by rw [show ((List.range N).map fun (h : Nat) => (cget [] h).isSome) = List.replicate N false by simp [List.eq_replicate_iff, cget]]; exact oh4, fun p hp => absurd hp (by simp), Nat.le_refl _, by simp, Nat.le_refl _⟩ ?_
  rintro ⟨i, c, l, ss⟩ A ⟨hi, xA, bA, cA, fA, mA, orA, hrows, ohA, hin, hcl, hss, zA⟩
  have hi : i ≤ ls.length := hi
  have xA : Ext H A := xA
  have bA : Blk A H.size 23 (pmL N T K E R) := bA
  have orA : OwnF Sl.val A H3.size 36 (Sl.fresh rb N) ss := orA
  have ohA : OwnF Value.bool A H3.size 4 (Sl.fresh hb N) ((List.range N).map fun (h : Nat) => (cget c h).isSome) := ohA
  have hin : ∀ p ∈ c, 0 ≤ p.1 ∧ p.1 < N ∧ p.2.length = cols := hin
  have hcl : c.length ≤ i := hcl
  have hss : ss.length = N := hss
  have hrows : ∀ k, k < N → Bytes H (ss.getD k Sl.nil) (rowC c k) := hrows
  have hrA := hrow.ext xA
  show Wp _ _ _ [(1, IV session), (2, I64 size), (3, s.val), (4, .pointer (some ⟨H.size, 0, none⟩)), (9, ptrV cb), (10, I64 cols), (11, (Sl.fresh rb N).val), (12, (Sl.fresh hb N).val), (13, I64 i)] _ _
  refine run ?_
  refine Wp.br (fun hlt => ?_) (fun hlt => ?_)
  case refine_2 =>
    refine run ?_
    refine RegS.call (out xA) ?_
    rintro _ H9 ⟨rfl, e9⟩
    refine run ?_
    exact ret1 ⟨rfl, e9⟩
  have hlt : (i : Int) < (ls.length : Int) := hlt
  refine run ?_
  refine RegS.allocA fun A1 x5 z5 b5 => ?_
  have b5 : Blk A1 A.size 38 (msgC msg0 msgS0) := b5
  have hme := heach i (by omega)
  refine run ?_
  refine RegS.storeA b5 ?_
  generalize hpr : ls.getD i (msg0, msgS0) = pr at hme
  have b6 : Blk (hsets A1 A.size 0 (msgPC pr)) A.size 38 (msgPC pr) := Blk.sets (msgPC pr) 0 b5
  have x56 : Ext A (hsets A1 A.size 0 (msgPC pr)) := x5.then (hsets_chg A.size (msgPC pr) 0 A1) fun b hb => by omega
  generalize hsets A1 A.size 0 (msgPC pr) = A2 at b6 x56 ⊢
  obtain ⟨⟨kind, src, to, ses', decided, commit, epoch, heads, id, sz, sort, target, dealers, parts, code, data⟩, ms⟩ := pr
  have b6 : Blk A2 A.size 38 [IV kind, IV src, IV to, IV ses', IV decided, IV commit, IV epoch, ms.hd.val, S id, IV sz, IV sort, IV target, ms.de.val, ms.pa.val, IV code, ms.da.val] := b6
  have hda : Bytes H ms.da data := hme.da
  have bA2 := bA.ext x56
  have cA2 := cA.ext x56
  have mA2 := mA.ext x56
  have hin2 := hda.ext (xA.trans x56)
  refine run ?_
  refine RegS.call (take2_ok N T K E R fb tb cb mb H4.size session Sl.nil size l c ⟨kind, src, to, ses', decided, commit, epoch, heads, id, sz, sort, target, dealers, parts, code, data⟩ ms A2 cA2 mA2 (by have := x56.size; omega) (fA.ext x56) hin2 (by omega) (by omega) (by omega) (by omega) (by omega) (by omega) (by omega) (by omega) (by omega)) ?_
  rintro v A3 ⟨c3', hres⟩
  have s56 := x56.size
  have bA3 := bA2.chg c3' (by omega)
  have b63 := b6.chg c3' (by omega)
  have fA3 := isField_chg (fA.ext x56) c3' (by omega)
  have xA3 : Ext H A3 := (xA.trans x56).then c3' fun b hb => by omega
  have orA3 : OwnF Sl.val A3 H3.size 36 (Sl.fresh rb N) ss := (orA.ext x56).chg c3' fun b hb hb' => by simp [Sl.blk, Sl.fresh] at hb; omega
  have ohA3 : OwnF Value.bool A3 H3.size 4 (Sl.fresh hb N) ((List.range N).map fun (h : Nat) => (cget c h).isSome) := (ohA.ext x56).chg c3' fun b hb hb' => by simp [Sl.blk, Sl.fresh] at hb; omega
  have cA3 : Blk A3 cb 104 (clientC N T K E R fb tb session Sl.nil true size (.map (some mb))) := cA2.chg c3' (by omega)
  have zA3 := c3'.size
  rcases hres with ⟨hn, rfl, mA3⟩ | ⟨hy, l', mA3, hfind⟩
  · have hcase : kind ≠ 4 ∨ (kind = 4 ∧ session = 0) ∨ (kind = 4 ∧ session ≠ 0 ∧ ses' ≠ session) ∨ (kind = 4 ∧ session ≠ 0 ∧ ses' = session ∧ src < 0) ∨ (kind = 4 ∧ session ≠ 0 ∧ ses' = session ∧ ¬ src < 0 ∧ (N : Int) ≤ src) ∨ (kind = 4 ∧ session ≠ 0 ∧ ses' = session ∧ ¬ src < 0 ∧ ¬ (N : Int) ≤ src ∧ data.length ≠ cols) := by
      simp only [takeP] at hn
      omega
    have hlen' : ms.da.len = data.length := hda.len
    have hin3 := hda.ext xA3
    -- [
    rcases hcase with h | ⟨h1, h⟩ | ⟨h1, h2, h⟩ | ⟨h1, h2, h3, h⟩ | ⟨h1, h2, h3, h4, h⟩ | ⟨h1, h2, h3, h4, h5, h⟩ <;> refine run ?_ <;>
      exact roundQ_n (i + 1, c, l, ss) subs ⟨by simp only; omega, xA3, bA3, cA3, fA3, mA3, orA3, hrows, ohA3, hin, by simp only; omega, hss, by omega⟩ (by simp only; omega)
    -- ]
  obtain ⟨k1, k2, k3, p1, p2, p3⟩ := hy
  simp only at k1 k2 k3 p1 p2 p3
  obtain ⟨f, rfl⟩ := Int.eq_ofNat_of_zero_le p1
  have hf : f < N := by omega
  have hlen' : ms.da.len = data.length := hda.len
  have hin3 := hda.ext xA3
  have rhA3 := OwnR.rowF (f := Value.bool) (dd := false) ohA3
  have rrA3 := OwnR.rowF (f := Sl.val) (dd := Sl.nil) orA3
  obtain ⟨c', hc'⟩ : ∃ c', c' = cadd c f data := ⟨_, rfl⟩
  have mA3 : Came A3 mb H4.size l' c' := by rw [hc']; exact mA3
  obtain ⟨a, ok, rfl, hok⟩ : ∃ (a : Sl) (ok : Bool), v = .tuple #[a.val, .bool ok] ∧ ((ok = true ∧ ∃ hs qs, isFound N T K E (cols : Nat) (keysC c') (rowsC c') hs qs ∧ Bytes A3 a (docL N K size qs) ∧ ∀ x, a.blk = some x → H4.size ≤ x) ∨ (ok = false ∧ a = Sl.nil ∧ ∀ hs qs, ¬ isFound N T K E (cols : Nat) (keysC c') (rowsC c') hs qs)) := by
    rw [hcols, hc']
    rcases hfind with ⟨hs, qs, a, h1, h2, h3, h4⟩ | ⟨h1, h2⟩
    · exact ⟨a, true, h2, .inl ⟨rfl, hs, qs, h1, h3, h4⟩⟩
    · exact ⟨Sl.nil, false, h2, .inr ⟨rfl, rfl, h1⟩⟩
  clear hfind
  have hbl : ((List.range N).map fun (h : Nat) => (cget c h).isSome).length = N := by simp
  have hbv : ((List.range N).map fun (h : Nat) => (cget c h).isSome).getD f false = (cget c f).isSome := by simp [List.getD_eq_getElem?_getD, hf]
  refine run ?_
  refine Wp.mid (ι := List Sl) (fun ss' => [(1, IV session), (2, I64 size), (3, s.val), (4, .pointer (some ⟨H.size, 0, none⟩)), (9, ptrV cb), (10, I64 cols), (11, (Sl.fresh rb N).val), (12, (Sl.fresh hb N).val), (13, I64 i), (15, a.val), (16, .bool ok)])
    (fun ss' B => Chg (fun b => b = rb ∨ b = hb) A3 B ∧ OwnF Sl.val B H3.size 36 (Sl.fresh rb N) ss' ∧ OwnF Value.bool B H3.size 4 (Sl.fresh hb N) ((List.range N).map fun (h : Nat) => (cget c' h).isSome) ∧ ss'.length = N ∧ ∀ k, k < N → Bytes H (ss'.getD k Sl.nil) (rowC c' k)) ?_ ?_
  · refine Wp.brB (fun h => ?_) (fun h => ?_)
    · rw [hbv] at h
      have hcn : cget c f = none := by cases hx : cget c f <;> simp_all
      refine run ?_
      obtain ⟨o1, ch1⟩ := OwnR.set orA3 (j := f) (by simp; omega) ms.da.val
      have w1 := OwnR.wr orA3 (j := f) (by simp; omega)
      have bA4 := bA3.chg ch1 (by simp [Sl.blk, Sl.fresh]; omega)
      have b64 := b63.chg ch1 (by simp [Sl.blk, Sl.fresh]; omega)
      have oh4' := OwnR.chg ohA3 ch1 fun b hb hb' => by simp [Sl.blk, Sl.fresh] at hb hb'; omega
      refine RegP.store w1 ?_ ?_
      · exact proms2
      generalize hset A3 ((Sl.fresh rb N).cell f) ms.da.val = B1 at o1 ch1 bA4 b64 oh4' ⊢
      have rh4 := OwnR.rowF (f := Value.bool) (dd := false) oh4'
      obtain ⟨o2, ch2⟩ := OwnR.set oh4' (j := f) (by simp; omega) (norm (.bool true))
      have w2 := OwnR.wr oh4' (j := f) (by simp; omega)
      refine run ?_
      refine RegP.store w2 ?_ ?_
      · exact proms2
      have o1' := OwnR.chg o1 ch2 fun b hb hb' => by simp [Sl.blk, Sl.fresh] at hb hb'; omega
      generalize hset B1 ((Sl.fresh hb N).cell f) (norm (.bool true)) = B2 at o2 ch2 o1' ⊢
      rw [norm_eq] at o2
      refine run ?_
      refine midQ_n (ss.set f ms.da) subs ⟨(ch1.mono fun b _ h => .inl (by simp [Sl.blk, Sl.fresh] at h; omega)).trans (ch2.mono fun b _ h => .inr (by simp [Sl.blk, Sl.fresh] at h; omega)), ?_, ?_, by simp [hss], fun k hk => ?_⟩
      · rw [OwnF, List.map_set]; exact o1'
      · rw [← range_set (fun (h : Nat) => (cget c h).isSome) (fun (h : Nat) => (cget c' h).isSome) hf fun j hj => ?_]
        · have e : (cget c' (f : Nat)).isSome = true := by rw [hc', cget_cadd, if_pos ⟨rfl, hcn⟩]; rfl
          rw [OwnF, List.map_set, e]; exact o2
        · by_cases e : j = f
          · rw [if_pos e, e]
          · rw [if_neg e, hc', cget_cadd, if_neg fun x => e (by omega)]
      · rw [getD_setL (by omega)]
        by_cases e : k = f
        · rw [if_pos e, e, rowC, hc', cget_cadd, if_pos ⟨rfl, hcn⟩]; exact hda
        · rw [if_neg e, rowC, hc', cget_cadd, if_neg fun x => e (by omega)]; exact hrows k hk
    · rw [hbv] at h
      have hcc : c' = c := by
        rw [hc', cadd, if_pos]
        simpa using h
      refine run ?_
      exact midQ_n ss subs ⟨Chg.refl _ _, orA3, by rw [hcc]; exact ohA3, hss, by rw [hcc]; exact hrows⟩
  rintro ss' B ⟨chB, orB, ohB, hssB, hrowB⟩
  have bB := bA3.chg chB (by omega)
  have fB := isField_chg fA3 chB (by omega)
  have cB := cA3.chg chB (by omega)
  have xB := xA3.then chB fun b hb => by omega
  have mB := mA3.low chB (by omega) fun b hb => by omega
  have zB := chB.size
  replace hok : (ok = true ∧ ∃ hs qs, isFound N T K E (cols : Nat) (keysC c') (rowsC c') hs qs ∧ Bytes B a (docL N K size qs)) ∨ (ok = false ∧ a = Sl.nil ∧ ∀ hs qs, ¬ isFound N T K E (cols : Nat) (keysC c') (rowsC c') hs qs) := by
    rcases hok with ⟨e, hs, qs, h1, h2, h3⟩ | h
    · exact .inl ⟨e, hs, qs, h1, RowF.chgN h2 chB fun hp x hx => ⟨RowF.lt h2 hp x hx, fun hS => by have := h3 x hx; omega⟩⟩
    · exact .inr h
  have hinB : ∀ p ∈ c', 0 ≤ p.1 ∧ p.1 < N ∧ p.2.length = cols := fun p hp => by
    rw [hc'] at hp
    rcases cadd_mem hp with h | h
    · exact hin p h
    · subst h; exact ⟨p1, p2, by simp only; omega⟩
  have hclB : c'.length ≤ i + 1 := by rw [hc', cadd]; split <;> (try simp only [List.length_append, List.length_singleton]) <;> omega
  clear chB orA ohA orA3 ohA3 rhA3 rrA3 hrows hbv hbl cA3 fA3 mA3 bA3 b63 xA3
  refine run ?_
  refine Wp.loop (ι := Nat × Sl × Sl) (fun x => [(1, IV session), (2, I64 size), (3, s.val), (4, .pointer (some ⟨H.size, 0, none⟩)), (9, ptrV cb), (10, I64 cols), (11, (Sl.fresh rb N).val), (12, (Sl.fresh hb N).val), (13, I64 i), (15, a.val), (16, .bool ok), (17, x.2.1.val), (18, x.2.2.val), (19, I64 x.1)])
    (fun x D => x.1 ≤ N ∧ TwoS B D x.2.1 x.2.2 (thereC c' x.1) ((thereC c' x.1).map fun k => ss'.getD k Sl.nil)) (fun x => N - x.1) (0, Sl.nil, Sl.nil) subs ⟨Nat.zero_le _, Ext.refl _, OwnR.nil _ _ _ _, OwnR.nil _ _ _ _, fun x h => by simp [Sl.blk, Sl.nil] at h⟩ ?_
  rintro ⟨h, fr, so⟩ D ⟨hh, TW⟩
  have hh : h ≤ N := hh
  have TW : TwoS B D fr so (thereC c' h) ((thereC c' h).map fun k => ss'.getD k Sl.nil) := TW
  have bD := bB.ext TW.ext
  have rb1 := OwnR.rowF (f := Sl.val) (dd := Sl.nil) (orB.ext TW.ext)
  have hb1 := OwnR.rowF (f := Value.bool) (dd := false) (ohB.ext TW.ext)
  have hbl : ((List.range N).map fun (h : Nat) => (cget c' h).isSome).length = N := by simp
  have htl := thereC_le c' h
  show Wp _ _ _ [(1, IV session), (2, I64 size), (3, s.val), (4, .pointer (some ⟨H.size, 0, none⟩)), (9, ptrV cb), (10, I64 cols), (11, (Sl.fresh rb N).val), (12, (Sl.fresh hb N).val), (13, I64 i), (15, a.val), (16, .bool ok), (17, fr.val), (18, so.val), (19, I64 h)] _ _
  refine run ?_
  refine Wp.br (fun hlt2 => ?_) (fun hlt2 => ?_)
  · have hlt2 : (h : Int) < (N : Int) := hlt2
    have hbv : ((List.range N).map fun (h : Nat) => (cget c' h).isSome).getD h false = (cget c' h).isSome := by simp [List.getD_eq_getElem?_getD, show h < N by omega]
    refine run ?_
    refine Wp.brB (fun h0 => ?_) (fun h0 => ?_) <;> rw [hbv] at h0
    · have hty := thereC_yes h0
      have fin : ∀ {D' : Heap} {fr' so' : Sl}, TwoS B D' fr' so' (thereC c' h ++ [h]) ((thereC c' h).map (fun k => ss'.getD k Sl.nil) ++ [ss'.getD h Sl.nil]) → TwoS B D' fr' so' (thereC c' (h + 1)) ((thereC c' (h + 1)).map fun k => ss'.getD k Sl.nil) := by
        intro D' fr' so' X
        rw [hty, List.map_append]; exact X
      have hbd1 : ∀ m : Nat, m ≤ 8 → (m + 1) * 8 ≤ 140737488355328 := fun m hm => by omega
      refine run ?_
      refine RegP.e (RegE.buildSlice (fun D1 o1 e1 w1 => ?_) (RegE.buildSlice (fun D1 o1 e1 w1 => ?_) RegE.nil))
      · have r1 : RowF I64 0 D1 (Sl.fresh D.size 1) [h] := OwnR.rowF (f := I64) (l := [h]) o1
        have T1 := TW.ext' e1
        have z1 := T1.ext.size
        have bD1 := bB.ext T1.ext
        have rb2 := OwnR.rowF (f := Sl.val) (dd := Sl.nil) (orB.ext T1.ext)
        refine run ?_
        refine RegP.e (RegE.append (f := I64) T1.ha r1 (fun _ => rfl) (by omega) ?_ ?_ ?_ (RegE.buildSlice (fun D2 o2 e2 w2 => ?_) RegE.nil))
        · simp only [List.length_singleton]; omega
        · simp only [List.length_singleton]; omega
        · intro fr' D2 h2 c2 b2
          have T2 := T1.appA h2 c2 b2
          have z2 := T2.ext.size
          have bD2 := bB.ext T2.ext
          have rb3 := OwnR.rowF (f := Sl.val) (dd := Sl.nil) (orB.ext T2.ext)
          refine ⟨.inr proms2, ?_⟩
          refine run ?_
          refine RegP.buildSlice fun D3 o3 e3 w3 => ?_
          have r3 : RowF Sl.val Sl.nil D3 (Sl.fresh D2.size 1) [ss'.getD h Sl.nil] := OwnR.rowF (f := Sl.val) (l := [ss'.getD h Sl.nil]) o3
          have T3 := T2.ext' e3
          have z3 := T3.ext.size
          refine run ?_
          refine RegP.append (f := Sl.val) T3.hb r3 (fun _ => rfl) (by omega) ?_ ?_ ?_
          · simp only [List.length_singleton, List.length_map]; omega
          · simp only [List.length_singleton, List.length_map]; omega
          intro so' D4 h4 c4 b4
          have T4 := T3.appB h4 c4 b4
          refine ⟨.inr proms2, ?_⟩
          refine run ?_
          exact roundQ_n (h + 1, fr', so') subs ⟨by simp only; omega, fin T4⟩ (by simp only; omega)
        · have r2 : RowF Sl.val Sl.nil D2 (Sl.fresh D1.size 1) [ss'.getD h Sl.nil] := OwnR.rowF (f := Sl.val) (l := [ss'.getD h Sl.nil]) o2
          have T2 := T1.ext' e2
          have z2 := T2.ext.size
          refine run ?_
          refine RegP.append (f := I64) T2.ha (r1.ext e2) (fun _ => rfl) (by omega) ?_ ?_ ?_
          · simp only [List.length_singleton]; omega
          · simp only [List.length_singleton]; omega
          intro fr' D3 h3 c3 b3
          have T3 := T2.appA h3 c3 b3
          have z3 := T3.ext.size
          have r3 : RowF Sl.val Sl.nil D3 (Sl.fresh D1.size 1) [ss'.getD h Sl.nil] := r2.chgN c3 fun _ x hx => ⟨by simp [Sl.blk, Sl.fresh] at hx; omega, fun hy => by simp [Sl.blk, Sl.fresh] at hx; have := (T1.ha.blk_ge hy).2; omega⟩
          have bD2 := bB.ext T3.ext
          have rb3 := OwnR.rowF (f := Sl.val) (dd := Sl.nil) (orB.ext T3.ext)
          refine ⟨.inr proms2, ?_⟩
          refine run ?_
          refine RegP.append (f := Sl.val) T3.hb r3 (fun _ => rfl) (by omega) ?_ ?_ ?_
          · simp only [List.length_singleton, List.length_map]; omega
          · simp only [List.length_singleton, List.length_map]; omega
          intro so' D4 h4 c4 b4
          have T4 := T3.appB h4 c4 b4
          refine ⟨.inr proms2, ?_⟩
          refine run ?_
          exact roundQ_n (h + 1, fr', so') subs ⟨by simp only; omega, fin T4⟩ (by simp only; omega)
      · have r1 : RowF Sl.val Sl.nil D1 (Sl.fresh D.size 1) [ss'.getD h Sl.nil] := OwnR.rowF (f := Sl.val) (l := [ss'.getD h Sl.nil]) o1
        have T1 := TW.ext' e1
        refine run ?_
        refine RegP.buildSlice fun D2 o2 e2 w2 => ?_
        have r2 : RowF I64 0 D2 (Sl.fresh D1.size 1) [h] := OwnR.rowF (f := I64) (l := [h]) o2
        have T2 := T1.ext' e2
        have z2 := T2.ext.size
        refine run ?_
        refine RegP.append (f := I64) T2.ha r2 (fun _ => rfl) (by omega) ?_ ?_ ?_
        · simp only [List.length_singleton]; omega
        · simp only [List.length_singleton]; omega
        intro fr' D3 h3 c3 b3
        have T3 := T2.appA h3 c3 b3
        have z3 := T3.ext.size
        have r3 : RowF Sl.val Sl.nil D3 (Sl.fresh D.size 1) [ss'.getD h Sl.nil] := (r1.ext e2).chgN c3 fun _ x hx => ⟨by simp [Sl.blk, Sl.fresh] at hx; have := e2.size; omega, fun hy => by simp [Sl.blk, Sl.fresh] at hx; have := (TW.ha.blk_ge hy).2; omega⟩
        have bD2 := bB.ext T3.ext
        have rb3 := OwnR.rowF (f := Sl.val) (dd := Sl.nil) (orB.ext T3.ext)
        refine ⟨.inr proms2, ?_⟩
        refine run ?_
        refine RegP.append (f := Sl.val) T3.hb r3 (fun _ => rfl) (by omega) ?_ ?_ ?_
        · simp only [List.length_singleton, List.length_map]; omega
        · simp only [List.length_singleton, List.length_map]; omega
        intro so' D4 h4 c4 b4
        have T4 := T3.appB h4 c4 b4
        refine ⟨.inr proms2, ?_⟩
        refine run ?_
        exact roundQ_n (h + 1, fr', so') subs ⟨by simp only; omega, fin T4⟩ (by simp only; omega)
    · have htn := thereC_no h0
      refine run ?_
      exact roundQ_n (h + 1, fr, so) subs ⟨by simp only; omega, by rw [htn]; exact TW⟩ (by simp only; omega)
  have hlt2 : ¬ (h : Int) < (N : Int) := hlt2
  have : h = N := by omega
  subst this
  have hnd := mB.nodup
  have hks := keysC_eq (fun p hp => ⟨(hinB p hp).1, (hinB p hp).2.1⟩) hnd
  have hrs := rowsC_eq (fun p hp => ⟨(hinB p hp).1, (hinB p hp).2.1⟩) hnd
  have rF := OwnR.rowF (f := I64) (dd := 0) TW.ha
  have rS := OwnR.rowF (f := Sl.val) (dd := Sl.nil) TW.hb
  have rF' : RowF IV 0 D fr (keysC c') := by
    rw [hks]
    exact ⟨by rw [rF.len, List.length_map], fun j hj => by
      have hj : j < (thereC c' h).length := by simpa using hj
      rw [rF.cell j hj]; simp [List.getD_eq_getElem?_getD, hj]⟩
  have xD := xB.trans TW.ext
  have rS' : BRows D so ((thereC c' h).map fun k => ss'.getD k Sl.nil) (rowsC c') := by
    rw [hrs]
    refine ⟨rS, by simp, fun k hk => ?_⟩
    have hk : k < (thereC c' h).length := by simpa using hk
    have hm : (thereC c' h)[k] < h := List.mem_range.1 (List.mem_filter.1 (List.getElem_mem (l := thereC c' h) hk)).1
    have := (hrowB _ hm).ext xD
    simpa [List.getD_eq_getElem?_getD, hk] using this
  have hkl : (keysC c').length = (thereC c' h).length := by rw [hks, List.length_map]
  refine run ?_
  refine RegS.call (rfind_ok h T K E R cols fr so _ (keysC c') (rowsC c') D rF' rS' (by omega) (by omega) (by omega) (by omega) (by omega) (by omega) (by omega) (by omega)) ?_
  rintro _ D1 ⟨x1', hres⟩
  have mD := mB.ext (TW.ext.trans x1')
  have bD1 := bD.ext x1'
  have cD1 := cB.ext (TW.ext.trans x1')
  have fD1 := fB.ext (TW.ext.trans x1')
  have xD1 := xD.trans x1'
  have oD1 := orB.ext (TW.ext.trans x1')
  have ohD1 := ohB.ext (TW.ext.trans x1')
  have zD1 := (TW.ext.trans x1').size
  rcases hok with ⟨rfl, hs', qs', hf1, hab⟩ | ⟨rfl, rfl, hf1⟩
  · rcases hres with ⟨hs, qs, q, w, sq, hf2, rfl, rq, rw'⟩ | ⟨hf2, rfl⟩
    · obtain ⟨rfl, rfl⟩ := hf1.one hf2
      have hab1 := hab.ext (TW.ext.trans x1')
      have hql := hf1.2.2.2.len
      have hqn : ∀ c, c < qs'.length → (qs'.getD c []).length ≤ 1000 := fun c hc => by
        obtain ⟨_, _, _, _, _, _, _, h1, h2, _⟩ := hf1.2.2.2.good c (by omega)
        rw [← h1, tl_length]; omega
      refine run ?_
      rw [dtt20]
      refine run ?_
      refine RegP.call (secret_ok h T K E R size q sq _ D1 rq (by omega) (by omega) (by omega) (by omega) hqn) ?_
      rintro _ D2 ⟨sc, rfl, msc, x2'⟩
      refine ⟨.inl x2', ?_⟩
      have msc2 := msc.bytes
      have hab2 := hab1.ext x2'
      refine run ?_
      rw [show dec (docL h K size qs' ≠ docL h K size qs') = false from dec_neg (by simp)]
      refine run ?_
      have zD2 := x2'.size
      exact roundQ_n (i + 1, c', l', ss') subs ⟨by simp only; omega, xD1.trans x2', bD1.ext x2', cD1.ext x2', fD1.ext x2', mD.ext x2', oD1.ext x2', hrowB, ohD1.ext x2', hinB, by simp only; omega, hssB, by omega⟩ (by simp only; omega)
    · exact absurd hf1 (hf2 _ _)
  · rcases hres with ⟨hs, qs, q, w, sq, hf2, rfl, rq, rw'⟩ | ⟨hf2, rfl⟩
    · exact absurd hf2 (hf1 _ _)
    · refine run ?_
      rw [dff20]
      refine run ?_
      exact roundQ_n (i + 1, c', l', ss') subs ⟨by simp only; omega, xD1, bD1, cD1, fD1, mD, oD1, hrowB, ohD1, hinB, by simp only; omega, hssB, by omega⟩ (by simp only; omega)
end Go.Proofs.YtgmemfcfjlndoaaGreat
