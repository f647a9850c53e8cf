/-
  The walks of packages tape and client.
-/
import Derived.Test.YtgmemfcfjlndoaaGreatVDeal4
import Derived.Test.YtgmemfcfjlndoaaGreatVMsg3
set_option linter.unusedVariables false
set_option linter.unusedSimpArgs false
namespace Go.Vc
theorem RegP.boxA {C : Cx} {ops : Array Oper} {L : Env} {ds : List Nat} {H : Heap} {K : Env → Heap → Prop} {o : Oper} {B : Array Nat} {p : Plan} {pend : List Rec} {i t d : Nat} {keep : List Nat} {x : Operand} {cs : List Value}
    (k : ∀ H', Ext H H' → H'.size = H.size + 1 → Blk H' H.size t cs → RegP C ops B p (pfilter keep pend) ((d, .pointer (some ⟨H.size, 0, none⟩)) :: L) ds H' K)
    (hi : ops[i]? = some o := by rfl) (ho : o.op = .box t x := by rfl) (hx : L.ev x = some (.agg cs.toArray) := by rfl) (hds : o.dst = some d := by rfl) (hg : gd ops o L = some true := by rfl) (hd : Nat.blt d C.N = true := by rfl) : RegP C ops B (.e i keep p .nil) pend L ds H K :=
  RegP.ef (Ef.box ho hx (by rw [hds]; exact ⟨.inl (Ext.push _ _), k _ (Ext.push _ _) (by simp) ⟨by rw [Array.getElem?_push, if_pos rfl]; rfl⟩⟩)) hi hg (by rw [hds]; exact hd)
theorem run_loadBlk {P : Program} [Tbl P] {w : World} {t b e sz bt : Nat} {d : TypeDesc} {z : Value} {cs : List Value} (ht : ty P t = some ⟨d, sz, bt, z⟩) (hd : isAggD d = true) (hn : Nat.beq sz cs.length = true) (hb : Blk w.heap b e cs) : (loadVar t ⟨b, 0, none⟩).run P w = .ok (.agg cs.toArray) w := by
  have hag := ty.agg ht w
  rw [hd] at hag
  have hsz := Nat.eq_of_beq_eq_true hn
  subst hsz
  have hl := run_loadCellsFrom (P := P) (w := w) (a := ⟨b, 0, none⟩) cs 0 #[] fun j hj => ⟨cs[j], List.getElem?_eq_getElem hj, by
    rw [Nat.zero_add, add_plain]
    show hcell w.heap _ = _
    rw [blk_cell hb.at_]
    simp⟩
  simp only [loadVar, Sem.run_bind, hag, Result.andThen, if_true, ty.sizeOf ht, loadCells, hl, Sem.run_pure]
  simp
theorem res_cellA {P : Program} [Tbl P] {fn : Func} {N : Nat} {L : Env} {H : Heap} {t₁ t₂ e₁ e b sz bt : Nat} {d : TypeDesc} {z v₂ : Value} {cs : List Value} (h : fn.results = #[.cell t₁ e₁, .tmp t₂]) (h1 : L.get t₁ = some (.pointer (some ⟨b, 0, none⟩))) (h2 : L.get t₂ = some v₂) (hb : Blk H b e cs)
    (y1 : ty P e₁ = some ⟨d, sz, bt, z⟩) (hd : isAggD d = true) (hn : Nat.beq sz cs.length = true) : Res P fn N L H (.tuple #[.agg cs.toArray, v₂]) := fun a ds w hw k => by
  subst hw
  have e1 := k.get' h1
  have e2 := k.get' h2
  have l1 := run_loadBlk (P := P) y1 hd hn hb
  simp [results, h, e1, e2, asAddr, Sem.run_bind, Sem.run, l1, Result.andThen]
theorem retcA {C : Cx} {L : Env} {H : Heap} {fn : Func} {R : Value → Heap → Prop} [Tbl C.P] {t₁ t₂ e₁ e b sz bt : Nat} {d : TypeDesc} {z v₂ : Value} {cs : List Value} (hb : Blk H b e cs) (hR : R (.tuple #[.agg cs.toArray, v₂]) H) (h : fn.results = #[.cell t₁ e₁, .tmp t₂] := by rfl) (h1 : L.get t₁ = some (.pointer (some ⟨b, 0, none⟩)) := by rfl) (h2 : L.get t₂ = some v₂ := by rfl)
    (y1 : ty C.P e₁ = some ⟨d, sz, bt, z⟩ := by rfl) (hd : isAggD d = true := by rfl) (hn : Nat.beq sz cs.length = true := by rfl) : retQ C fn R .ret L [] H := ret_plain (res_cellA h h1 h2 hb y1 hd hn) hR
end Go.Vc
namespace Go.Proofs.YtgmemfcfjlndoaaGreat
open Go Go.Vc Go.Gf

abbrev ptrV (b : Nat) : Value := .pointer (some ⟨b, 0, none⟩)
abbrev clientC (N T K E R : Nat) (fb tb : Nat) (ses : Int) (dealt : Sl) (wanted : Bool) (size : Int) (came : Value) : List Value := [I64 N, I64 T, I64 K, I64 E, I64 R, fieldV fb, ptrV tb, IV ses, dealt.val, .bool wanted, IV size, came]
theorem tapeNew_ok (H : Heap) : CallsH Tryz.prog 52 [] H fun v H' => v = ptrV H.size ∧ Blk H' H.size 154 [Sl.nil.val, IV 0] ∧ Ext H H' := by
  refine CallsH.enter h52 Tryz.func52 rfl rfl rfl (by decide) fun u => go ?_
  refine RegS.boxA fun H0 x0 z0 b0 => ?_
  refine go ?_
  exact ret1 ⟨rfl, b0, x0⟩
theorem clientNew_ok (N T K E R : Nat) (H : Heap) : CallsH Tryz.prog 12 [pmV N T K E R] H fun v H' => ∃ cb fb tb, v = ptrV cb ∧ IsField H' fb ∧ Blk H' tb 154 [Sl.nil.val, IV 0] ∧ Blk H' cb 104 (clientC N T K E R fb tb 0 Sl.nil false 0 (.map none)) ∧ Ext H H' ∧ H.size ≤ tb ∧ tb < cb ∧ fb < tb := by
  refine CallsH.enter h12 Tryz.func12 rfl rfl rfl (by decide) fun u => go ?_
  refine RegS.boxA fun H0 x0 z0 b0 => ?_
  refine go ?_
  refine RegP.call (new_ok H0) ?_
  rintro _ H1 ⟨fb, rfl, hF, x1⟩
  refine ⟨.inl x1, ?_⟩
  refine go ?_
  refine RegP.call (tapeNew_ok H1) ?_
  rintro _ H2 ⟨rfl, bt, x2⟩
  refine ⟨.inl x2, ?_⟩
  have b2 := (b0.ext x1).ext x2
  refine go ?_
  refine RegP.boxA fun H3 x3 z3 b3 => ?_
  refine go ?_
  have s0 := x0.size
  have s1 := x1.size
  have s2 := bt.lt
  exact ret1 ⟨_, fb, _, rfl, (hF.ext x2).ext x3, bt.ext x3, b3, ((x0.trans x1).trans x2).trans x3, by omega, by omega, hcell_lt (hF.exp 0 (by omega))⟩
theorem tape_ok (N T K E R fb tb cb : Nat) (ses : Int) (dealt : Sl) (wanted : Bool) (size : Int) (came : Value) (H : Heap) (hc : Blk H cb 104 (clientC N T K E R fb tb ses dealt wanted size came)) : CallsH Tryz.prog 45 [ptrV cb] H fun v H' => v = ptrV tb ∧ H = H' := by
  refine CallsH.enter h45 Tryz.func45 rfl rfl rfl (by decide) fun u => go ?_
  refine RegS.q (h := Rd.eqlPtr rfl rfl rfl rfl) ?_
  refine go ?_
  exact ret1 ⟨rfl, rfl⟩
theorem session_ok (N T K E R fb tb cb : Nat) (ses : Int) (dealt : Sl) (wanted : Bool) (size : Int) (came : Value) (H : Heap) (hc : Blk H cb 104 (clientC N T K E R fb tb ses dealt wanted size came)) : CallsH Tryz.prog 49 [ptrV cb] H fun v H' => v = IV ses ∧ H = H' := by
  refine CallsH.enter h49 Tryz.func49 rfl rfl rfl (by decide) fun u => go ?_
  refine RegS.q (h := Rd.eqlPtr rfl rfl rfl rfl) ?_
  refine go ?_
  exact ret1 ⟨rfl, rfl⟩
theorem left_ok (tb : Nat) (left : Sl) (used : Int) (l : List UInt8) (H : Heap) (ht : Blk H tb 154 [left.val, IV used]) (hl : Bytes H left l) : CallsH Tryz.prog 50 [ptrV tb] H fun v H' => v = I64 l.length ∧ H = H' := by
  refine CallsH.enter h50 Tryz.func50 rfl rfl rfl (by decide) fun u => go ?_
  refine RegS.q (h := Rd.eqlPtr rfl rfl rfl rfl) ?_
  refine go ?_
  exact ret1 ⟨rfl, rfl⟩
theorem there_ok (N T K E R fb tb cb : Nat) (ses : Int) (dealt : Sl) (wanted : Bool) (size : Int) (came : Value) (n : Int) (H : Heap) (hc : Blk H cb 104 (clientC N T K E R fb tb ses dealt wanted size came)) : CallsH Tryz.prog 54 [ptrV cb, IV n] H fun v H' => v = .bool (dec (0 ≤ n ∧ n < N)) ∧ H = H' := by
  refine CallsH.enter h54 Tryz.func54 rfl rfl rfl (by decide) fun u => go ?_
  refine RegS.sp (fun h => ?_) (fun h => ?_) <;> refine go ?_
  · exact ret1 ⟨congrArg _ (dec_congr ⟨fun k => ⟨h, k⟩, fun k => k.2⟩), rfl⟩
  · exact ret1 ⟨by rw [dec_neg fun k => h k.1], rfl⟩
theorem forget_ok (N T K E R fb tb cb : Nat) (ses : Int) (dealt : Sl) (wanted : Bool) (size : Int) (came : Value) (H : Heap) (hc : Blk H cb 104 (clientC N T K E R fb tb ses dealt wanted size came)) : CallsH Tryz.prog 109 [ptrV cb] H fun v H' => Blk H' cb 104 (clientC N T K E R fb tb 0 Sl.nil false 0 (.map none)) ∧ Chg (· = cb) H H' := by
  refine CallsH.enter h109 Tryz.func109 rfl rfl rfl (by decide) fun u => go ?_
  refine RegS.q (h := Rd.neqPtr rfl rfl rfl rfl) ?_
  refine go ?_
  refine RegS.storeA hc ?_
  refine go ?_
  exact ret0n ⟨Blk.sets [IV 0, Sl.nil.val, .bool false, IV 0, .map none] 7 hc, hsets_chg _ _ _ _⟩
theorem tapeAdd_ok (tb : Nat) (s : Sl) (l : List UInt8) (H : Heap) (ht : Blk H tb 154 [Sl.nil.val, IV 0]) (hs : Bytes H s l) (hl : l.length ≤ 65536) : CallsH Tryz.prog 46 [ptrV tb, s.val] H fun v H' => v = IV 0 ∧ ∃ left : Sl, Blk H' tb 154 [left.val, IV 0] ∧ OwnF B8 H' H.size 5 left l ∧ Chg (· = tb) H H' := by
  have hlt := ht.lt
  refine CallsH.enter h46 Tryz.func46 rfl rfl rfl (by decide) fun u => go ?_
  refine RegS.q (h := Rd.eqlPtr rfl rfl rfl rfl) ?_
  refine go ?_
  refine RegS.append (f := B8) (l' := []) (OwnR.nil H H.size 5 1) hs (fun _ => rfl) (Nat.le_refl _) ?_ ?_ ?_
  · simp only [List.length_nil]; omega
  · simp only [List.length_nil]; omega
  intro t H1 o1 c1 b1
  rw [List.nil_append] at o1
  have ht1 : Blk H1 tb 154 [Sl.nil.val, IV 0] := ht.chg c1 fun h => by simp [Sl.blk, Sl.nil] at h
  refine go ?_
  refine RegS.store (v := t.val) (Blk.wr ht1 (j := 0) (by simp)) ?_
  refine go ?_
  have c2 := hset_chg H1 ⟨tb, 0, none⟩ t.val
  refine ret1 ⟨rfl, t, Blk.set (j := 0) (v := t.val) ht1, OwnR.chg o1 c2 fun b hb hb' => by have := (o1.blk_ge hb).1; simp at hb'; omega, ?_⟩
  exact (c1.mono fun b _ h => by simp [Sl.blk, Sl.nil] at h).trans (c2.mono fun b _ h => by simpa using h)
theorem take_ok (tb : Nat) (left : Sl) (used n : Nat) (l : List UInt8) (H : Heap) (ht : Blk H tb 154 [left.val, I64 used]) (hl : Bytes H left l) (hne : ∀ b, left.blk = some b → b < H.size ∧ b ≠ tb) (hn : n ≤ l.length) (hu : used ≤ 100000000) (hll : l.length ≤ 100000000) :
    CallsH Tryz.prog 110 [ptrV tb, I64 n] H fun v H' => ∃ b left' : Sl, v = .tuple #[b.val, .bool true] ∧ OwnF B8 H' H.size 5 b (l.take n) ∧ Blk H' tb 154 [left'.val, I64 (used + n)] ∧ Bytes H' left' (l.drop n) ∧ (∀ b, left'.blk = some b → left.blk = some b) ∧ Chg (· = tb) H H' := by
  have hlt := ht.lt
  have hlen : left.len = l.length := hl.len
  have hle := left.le
  refine CallsH.enter h110 Tryz.func110 rfl rfl rfl (by decide) fun u => go ?_
  refine RegS.q (h := Rd.eqlPtr rfl rfl rfl rfl) ?_
  refine go ?_
  have hh1 : 0 ≤ n ∧ n ≤ left.cap ∧ left.cap ≤ left.cap := by omega
  have hh2 : n ≤ left.len ∧ left.len ≤ left.cap ∧ left.cap ≤ left.cap := by omega
  refine RegS.cut 0 n left.cap (.inl ⟨rfl, rfl⟩) (.inr ⟨_, _, rfl, rfl⟩) (.inl ⟨rfl, rfl⟩) hh1 ?_
  have hc1 := hl.cut hh1 (by omega)
  rw [List.drop_zero] at hc1
  refine go ?_
  refine RegS.call (clone_ok _ (l.take n) H hc1 (by simp; omega)) ?_
  rintro _ H1 ⟨b, rfl, ob, e1⟩
  have ht1 := ht.ext e1
  have hl1 := hl.ext e1
  refine go ?_
  refine RegS.cut n left.len left.cap (.inr ⟨_, _, rfl, rfl⟩) (.inl ⟨rfl, rfl, rfl⟩) (.inl ⟨rfl, rfl⟩) hh2 ?_
  have hc2 := hl1.cut hh2 (by omega)
  rw [hlen, List.take_length] at hc2
  rw [hlen]
  have hcb : ∀ x, (left.cut n l.length left.cap).blk = some x → left.blk = some x := fun x hx => Sl.cut_blk hx
  generalize left.cut n l.length left.cap = left' at hc2 hcb
  refine go ?_
  refine RegS.store (v := left'.val) (Blk.wr ht1 (j := 0) (by simp)) ?_
  have ht2 : Blk (hset H1 ⟨tb, 0, none⟩ left'.val) tb 154 [left'.val, I64 used] := Blk.set (j := 0) (v := left'.val) ht1
  refine go ?_
  refine RegS.store (v := I64 (used + n)) (Blk.wr ht2 (j := 1) (by simp)) ?_
  have ht3 : Blk (hset (hset H1 ⟨tb, 0, none⟩ left'.val) ⟨tb, 1, none⟩ (I64 (used + n))) tb 154 [left'.val, I64 (used + n)] := Blk.set (j := 1) (v := I64 (used + n)) ht2
  have c3 : Chg (· = tb) H1 (hset (hset H1 ⟨tb, 0, none⟩ left'.val) ⟨tb, 1, none⟩ (I64 (used + n))) := (hset_chg H1 ⟨tb, 0, none⟩ _).trans (hset_chg _ ⟨tb, 1, none⟩ _)
  have z1 := e1.size
  refine go ?_
  exact ret2 ⟨b, left', rfl, OwnR.chg ob c3 fun x hx hx' => by have := (ob.blk_ge hx).1; omega, ht3, hc2.chg c3 fun x hx => ⟨by have := (hne x (hcb x hx)).1; omega, (hne x (hcb x hx)).2⟩, hcb, (e1.chg _).trans c3⟩
theorem take_no (tb : Nat) (left : Sl) (used n : Nat) (l : List UInt8) (H : Heap) (ht : Blk H tb 154 [left.val, I64 used]) (hl : Bytes H left l) (hn : l.length < n) :
    CallsH Tryz.prog 110 [ptrV tb, I64 n] H fun v H' => v = .tuple #[Sl.nil.val, .bool false] ∧ H = H' := by
  refine CallsH.enter h110 Tryz.func110 rfl rfl rfl (by decide) fun u => go ?_
  refine RegS.q (h := Rd.eqlPtr rfl rfl rfl rfl) ?_
  refine go ?_
  exact ret2 ⟨rfl, rfl⟩
theorem cloneI_ok (s : Sl) (l : List Int) (H : Heap) (hb : RowF IV 0 H s l) (hl : l.length ≤ 2000000) : CallsH Tryz.prog 114 [s.val] H fun v H' => ∃ s' : Sl, v = s'.val ∧ RowF IV 0 H' s' l ∧ Ext H H' ∧ ∀ b, s'.blk = some b → H.size ≤ b := by
  refine CallsH.enter h114 Tryz.func114 rfl rfl rfl (by decide) fun u => go ?_
  refine Wp.brB (fun h => ?_) (fun h => ?_) <;> refine go ?_
  · have h0 := s.ok (by simpa using h)
    have hl0 : l = [] := List.eq_nil_of_length_eq_zero (by have := hb.len; omega)
    subst hl0
    exact ret1 ⟨_, rfl, RowF.nil _, Ext.refl _, fun b h => by simp [Sl.blk, Sl.nil] at h⟩
  · refine RegS.buildSlice fun H1 o1 e1 z1 => ?_
    have o1 : OwnF IV H1 H.size 3 (Sl.fresh H.size 0) [] := o1
    refine go ?_
    refine RegS.append (f := IV) o1 (hb.ext e1) (fun _ => rfl) (by omega) ?_ ?_ ?_
    · simp only [List.length_nil]; omega
    · simp only [List.length_nil]; omega
    intro s' H2 o2 c2 b2
    rw [List.nil_append] at o2
    refine go ?_
    exact ret1 ⟨_, rfl, OwnR.rowF o2, e1.then c2 fun b hb => (o1.blk_ge hb).1, fun b hb => (o2.blk_ge hb).1⟩
theorem cloneH_ok (s : Sl) (l : List HdT) (H : Heap) (hb : HRow H s l) (hl : l.length ≤ 2000000) : CallsH Tryz.prog 113 [s.val] H fun v H' => ∃ s' : Sl, v = s'.val ∧ HRow H' s' l ∧ Ext H H' ∧ ∀ b, s'.blk = some b → H.size ≤ b := by
  refine CallsH.enter h113 Tryz.func113 rfl rfl rfl (by decide) fun u => go ?_
  refine Wp.brB (fun h => ?_) (fun h => ?_) <;> refine go ?_
  · have h0 := s.ok (by simpa using h)
    have hl0 : l = [] := List.eq_nil_of_length_eq_zero (by have := hb.len; omega)
    subst hl0
    exact ret1 ⟨_, rfl, HRow.nil _, Ext.refl _, fun b h => by simp [Sl.blk, Sl.nil] at h⟩
  · refine RegS.buildNone 79 2 fun H1 o1 e1 z1 => ?_
    have hb1 := hb.ext e1
    have hlen := hb.len
    refine go ?_
    refine RegS.appendN o1 (r := s) (ys := l.flatMap hdV) (by rw [hdV_flat, hlen]) hb1.get (hdV_one l) (by omega) ?_ ?_ ?_
    · show (0 + s.len) * _ ≤ _; omega
    · show 0 + s.len ≤ _; omega
    intro s' H2 o2 c2 b2
    rw [List.nil_append] at o2
    refine go ?_
    exact ret1 ⟨_, rfl, OwnR.hrow o2, e1.then c2 fun b hb => (o1.blk_ge hb).1, fun b hb => (o2.blk_ge hb).1⟩
end Go.Proofs.YtgmemfcfjlndoaaGreat
