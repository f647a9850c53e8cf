/-
  The calculus, part 13: copy into a fresh row; rows that grow side by side.
-/
import Derived.Test.YtaikdcnifijcoaaGreatQ07
import Derived.Test.YtaikdcnifijcoaaGreatQ06
set_option linter.unusedVariables false
set_option linter.unusedSimpArgs false
namespace Go.Proofs.YtaikdcnifijcoaaGreat
open Go Go.Vc
set_option maxHeartbeats 4000000 in
theorem lay_ok (base kb : Nat) (O : Sl) (out : List UInt8) (bad : Bool) (s : Sl) (l : List UInt8) (H : Heap) (hB : BookAt H base kb O out bad) (hs : Bytes H s l) (hl : l.length ≤ 4000000) (ho : out.length ≤ 100000000) :
    CallsH Tryz.prog 82 [.pointer (some ⟨kb, 0, none⟩), s.val] H fun v H' => ∃ (O' : Sl), BookAt H' base kb O' (out ++ layB l) (bad || badL l) ∧ Chg (fun b => base ≤ b) H H' := by
  refine CallsH.enter h82 Tryz.func82 rfl rfl rfl (by decide) fun u => go ?_
  refine RegS.call (bytes_ok s l H hs (by omega)) ?_
  rintro _ A1 ⟨t, rfl, mt, e1⟩
  have hB1 := hB.ext e1
  have lb := layB_le l
  have k1 := hB1.blk
  have rt := mt.bytes
  have z1 := e1.size
  have zA := hB.size
  refine go ?_
  refine RegP.append (f := B8) hB1.own rt (fun _ => rfl) (by omega) ?_ ?_ ?_
  · omega
  · omega
  intro P' A2 o2 c2 b2
  have k2 : Blk A2 kb 134 [O.val, .bool bad] := k1.chg c2 fun h => hB1.ne h
  have hne : P'.blk ≠ some kb := by
    rcases b2 with e | ⟨b', e, hz⟩
    · rw [e]; exact hB1.ne
    · rw [e]; simp only [ne_eq, Option.some.injEq]; have := k1.lt; omega
  refine ⟨.inr proms, ?_⟩
  cases bad <;> refine go ?_
  all_goals
    refine RegP.store (Blk.wr k2 (j := 0) (by simp)) ?_ ?_
    · exact proms
    have k3 : Blk (hset A2 ⟨kb, 0, none⟩ P'.val) kb 134 [P'.val, _] := Blk.set (j := 0) (v := P'.val) k2
    refine go ?_
    refine RegP.store (Blk.wr k3 (j := 1) (by simp)) ?_ ?_
    · exact proms
    refine go ?_
    have kc : ∀ v, Chg (fun b => b = kb) A2 (hset (hset A2 ⟨kb, 0, none⟩ P'.val) ⟨kb, 1, none⟩ v) := fun v => (hset_chg A2 ⟨kb, 0, none⟩ P'.val).trans (hset_chg _ ⟨kb, 1, none⟩ v)
    refine ret0n ⟨P', ⟨by simpa [norm_eq] using Blk.two k2, OwnR.chg o2 (kc _) fun b hb hb' => by subst hb'; exact hne hb, hne, hB.ge⟩, ?_⟩
    exact Chg.trans (Chg.trans (e1.chg _) (c2.mono fun b _ hb => (hB1.own.blk_ge hb).1)) ((kc _).mono fun b _ hb => by subst hb; exact hB.ge)
theorem ints_ok (base kb : Nat) (O : Sl) (out : List UInt8) (bad : Bool) (s : Sl) (l : List Int) (H : Heap) (hB : BookAt H base kb O out bad) (hs : RowF IV 0 H s l) (ha : 0 < s.len → ∀ b, s.blk = some b → b < base) (hl : l.length ≤ 4000000) (ho : out.length ≤ 90000000) :
    CallsH Tryz.prog 83 [.pointer (some ⟨kb, 0, none⟩), s.val] H fun v H' => ∃ (O' : Sl), BookAt H' base kb O' (out ++ (putB [(l.length : Int)] ++ putB l)) (bad || (badI [(l.length : Int)] || badI l)) ∧ Chg (fun b => base ≤ b) H H' := by
  refine CallsH.enter h83 Tryz.func83 rfl rfl rfl (by decide) fun u => go ?_
  refine RegS.buildSlice fun H1 o1 e1 z1 => ?_
  have r1 : RowF IV 0 H1 (Sl.fresh H.size 1) [(l.length : Int)] := OwnR.rowF (f := IV) (l := [(l.length : Int)]) o1
  refine go ?_
  refine RegS.call (put_ok base kb O out bad _ _ H1 (hB.ext e1) r1 (hB.new e1 fun b hb => OwnR.blk_ge o1 hb) (by simp) (by omega)) ?_
  rintro _ H2 ⟨O2, hB2, c2⟩
  have cc := (e1.chg (fun b => base ≤ b)).trans c2
  have hs2 := hs.chgN cc fun hp b hb => ⟨hs.lt hp b hb, fun k => by have := ha hp b hb; omega⟩
  have hp1 := putB_le [(l.length : Int)]
  simp only [List.length_singleton] at hp1
  refine go ?_
  refine RegS.call (put_ok base kb O2 _ _ s l H2 hB2 hs2 (hB2.old ha) hl (by rw [List.length_append]; omega)) ?_
  rintro _ H3 ⟨O3, hB3, c3⟩
  refine go ?_
  refine ret0n ⟨O3, ?_, cc.trans c3⟩
  rw [← List.append_assoc, ← Bool.or_assoc]; exact hB3
theorem hdW_take (l : List HdT) (j : Nat) : hdW (l.take j) ≤ hdW l := by
  conv => rhs; rw [← List.take_append_drop j l]
  unfold hdW; rw [List.map_append, List.sum_append]; omega
set_option maxHeartbeats 4000000 in
theorem heads_ok (base kb : Nat) (O : Sl) (out : List UInt8) (bad : Bool) (s : Sl) (l : List HdT) (H : Heap) (hB : BookAt H base kb O out bad) (hs : HRow H s l) (ha : 0 < s.len → ∀ b, s.blk = some b → b < base) (hl : l.length ≤ 4000000) (hw : hdW l ≤ 10000000) (hx : ∀ j, j < l.length → (l.getD j ([], 0)).1.length ≤ 4000000) (ho : out.length ≤ 70000000) :
    CallsH Tryz.prog 81 [.pointer (some ⟨kb, 0, none⟩), s.val] H fun v H' => ∃ (O' : Sl), BookAt H' base kb O' (out ++ (putB [(l.length : Int)] ++ headsB l)) (bad || (badI [(l.length : Int)] || badH l)) ∧ Chg (fun b => base ≤ b) H H' := by
  have hsl := hs.len
  refine CallsH.enter h81 Tryz.func81 rfl rfl rfl (by decide) fun u => go ?_
  refine RegS.q (h := Rd.len (s := s) rfl rfl rfl rfl) ?_
  rw [hsl]
  refine go ?_
  refine RegS.buildSlice fun H1 o1 e1 z1 => ?_
  have r1 : RowF IV 0 H1 (Sl.fresh H.size 1) [(l.length : Int)] := OwnR.rowF (f := IV) (l := [(l.length : Int)]) o1
  refine go ?_
  refine RegS.call (put_ok base kb O out bad _ _ H1 (hB.ext e1) r1 (hB.new e1 fun b hb => OwnR.blk_ge o1 hb) (by simp) (by omega)) ?_
  rintro _ H2 ⟨O2, hB2, c2⟩
  have cc := (e1.chg (fun b => base ≤ b)).trans c2
  have hp1 := putB_le [(l.length : Int)]
  simp only [List.length_singleton] at hp1
  refine go ?_
  refine Wp.loop (ι := Nat × Sl) (fun i => [(0, .pointer (some ⟨kb, 0, none⟩)), (1, s.val), (4, I64 i.1)]) (fun i A => i.1 ≤ l.length ∧ BookAt A base kb i.2 (out ++ (putB [(l.length : Int)] ++ headsB (l.take i.1))) (bad || (badI [(l.length : Int)] || badH (l.take i.1))) ∧ HRow A s l ∧ Chg (fun b => base ≤ b) H A) (fun i => l.length - i.1) (0, O2) subs ⟨Nat.zero_le _, by simpa [headsB, badH] using hB2, hs.chgN cc fun hp b hb k => by have := ha hp b hb; omega, cc⟩ ?_
  rintro ⟨j, P⟩ A ⟨hj, hBA, hsA, cA⟩
  have hj : j ≤ l.length := hj
  have hBA : BookAt A base kb P (out ++ (putB [(l.length : Int)] ++ headsB (l.take j))) (bad || (badI [(l.length : Int)] || badH (l.take j))) := hBA
  show Wp _ _ _ [(0, .pointer (some ⟨kb, 0, none⟩)), (1, s.val), (4, I64 j)] _ _
  refine go ?_
  refine RegS.q (h := Rd.len (s := s) rfl rfl rfl rfl) ?_
  rw [hsl]
  refine go ?_
  refine Wp.br (fun hlt => ?_) (fun hlt => ?_)
  case refine_2 =>
    have hlt : ¬ (j : Int) < (l.length : Int) := hlt
    have : j = l.length := by omega
    subst this
    rw [List.take_length] at hBA
    refine go ?_
    exact ret0n ⟨P, hBA, cA⟩
  have hlt : (j : Int) < (l.length : Int) := hlt
  have hx' : l.take (j + 1) = l.take j ++ [l.getD j ([], 0)] := by
    rw [List.take_add_one, List.getElem?_eq_getElem (by omega)]
    simp [List.getD_eq_getElem?_getD, show j < l.length by omega]
  have hxj := hx j (by omega)
  have hh1 := headsB_le (l.take j)
  have hh2 := hdW_take l j
  have hh3 := headsB_le (l.take (j + 1))
  have hh4 := hdW_take l (j + 1)
  rw [hx', headsB_snoc] at hh3
  rw [hx'] at hh4
  simp only [List.length_append] at hh3
  have f0 : hcell A (s.cell (j * 2 + 0)) = some (S (l.getD j ([], 0)).1) := hsA.fst j (by omega)
  refine go ?_
  refine RegS.q (h := Rd.indexAddr rfl rfl rfl rfl rfl (by omega)) ?_
  refine go ?_
  refine RegS.convStr fun s1 A1 m1 y1 => ?_
  refine go ?_
  refine RegS.call (lay_ok base kb P _ _ s1 _ A1 (hBA.ext y1) m1 hxj (by simp only [List.length_append]; omega)) ?_
  rintro _ A2 ⟨P2, hB2', c2'⟩
  have cc2 := (y1.chg (fun b => base ≤ b)).trans c2'
  have hs2 := hsA.chgN cc2 fun hp b hb k => by have := ha hp b hb; omega
  have f1 : hcell A2 (s.cell (j * 2 + 1)) = some (.int .i64 (l.getD j ([], 0)).2) := hs2.snd j (by omega)
  refine go ?_
  refine RegS.q (h := Rd.indexAddr rfl rfl rfl rfl rfl (by omega)) ?_
  refine go ?_
  refine RegS.buildSlice fun A3 o3 y3 w3 => ?_
  have r3 : RowF IV 0 A3 (Sl.fresh A2.size 1) [(l.getD j ([], 0)).2] := OwnR.rowF (f := IV) (l := [(l.getD j ([], 0)).2]) o3
  refine go ?_
  refine RegS.call (put_ok base kb P2 _ _ _ _ A3 (hB2'.ext y3) r3 (hB2'.new y3 fun b hb => OwnR.blk_ge o3 hb) (by simp) (by simp only [List.length_append]; omega)) ?_
  rintro _ A4 ⟨P4, hB4, c4⟩
  have cc4 := (y3.chg (fun b => base ≤ b)).trans c4
  refine go ?_
  refine roundQ_n (j + 1, P4) subs ⟨by simp only; omega, ?_, hs2.chgN cc4 fun hp b hb k => by have := ha hp b hb; omega, (cA.trans cc2).trans cc4⟩ (by simp only; omega)
  show BookAt _ _ _ _ (out ++ (putB [(l.length : Int)] ++ headsB (l.take (j + 1)))) (bad || (badI [(l.length : Int)] || badH (l.take (j + 1))))
  rw [hx', headsB_snoc, badH_snoc]
  simp only [List.append_assoc, Bool.or_assoc] at hB4 ⊢
  exact hB4
end Go.Proofs.YtaikdcnifijcoaaGreat
set_option linter.unusedVariables false
set_option linter.unusedSimpArgs false
namespace Go.Proofs.YtaikdcnifijcoaaGreat
open Go Go.Vc
/-- A message, plain. -/
structure MsgA where
  kind : Int
  src : Int
  to : Int
  session : Int
  decided : Int
  commit : Int
  epoch : Int
  heads : List HdT
  id : List UInt8
  size : Int
  sort : Int
  target : Int
  dealers : List Int
  parts : List Int
  code : Int
  data : List UInt8
/-- Its slices. -/
structure MsgS where
  hd : Sl
  de : Sl
  pa : Sl
  da : Sl
abbrev msgC (m : MsgA) (s : MsgS) : List Value := [IV m.kind, IV m.src, IV m.to, IV m.session, IV m.decided, IV m.commit, IV m.epoch, s.hd.val, S m.id, IV m.size, IV m.sort, IV m.target, s.de.val, s.pa.val, IV m.code, s.da.val]
structure MsgIn (H : Heap) (m : MsgA) (s : MsgS) : Prop where
  hd : HRow H s.hd m.heads
  de : RowF IV 0 H s.de m.dealers
  pa : RowF IV 0 H s.pa m.parts
  da : Bytes H s.da m.data
structure MsgFit (m : MsgA) : Prop where
  hl : m.heads.length ≤ 2000000
  hw : hdW m.heads ≤ 10000000
  hx : ∀ j, j < m.heads.length → (m.heads.getD j ([], 0)).1.length ≤ 2000000
  id : m.id.length ≤ 2000000
  de : m.dealers.length ≤ 2000000
  pa : m.parts.length ≤ 2000000
  da : m.data.length ≤ 2000000
theorem MsgIn.ext {H H' : Heap} {m : MsgA} {s : MsgS} (h : MsgIn H m s) (e : Ext H H') : MsgIn H' m s := ⟨h.hd.ext e, h.de.ext e, h.pa.ext e, h.da.ext e⟩
def msg0 : MsgA := ⟨0, 0, 0, 0, 0, 0, 0, [], [], 0, 0, 0, [], [], 0, []⟩
def msgS0 : MsgS := ⟨Sl.nil, Sl.nil, Sl.nil, Sl.nil⟩
def msgB (m : MsgA) : List UInt8 := putB [m.kind, m.src, m.to, m.session, m.decided, m.commit, m.epoch] ++ (putB [(m.heads.length : Int)] ++ headsB m.heads) ++ layB m.id ++ putB [m.size, m.sort, m.target] ++ (putB [(m.dealers.length : Int)] ++ putB m.dealers) ++ (putB [(m.parts.length : Int)] ++ putB m.parts) ++ putB [m.code] ++ layB m.data
def msgBad (m : MsgA) : Bool := badI [m.kind, m.src, m.to, m.session, m.decided, m.commit, m.epoch] || (badI [(m.heads.length : Int)] || badH m.heads) || badL m.id || badI [m.size, m.sort, m.target] || (badI [(m.dealers.length : Int)] || badI m.dealers) || (badI [(m.parts.length : Int)] || badI m.parts) || badI [m.code] || badL m.data
set_option maxHeartbeats 8000000 in
theorem msg_ok (m : MsgA) (s : MsgS) (H : Heap) (hm : MsgIn H m s) (hf : MsgFit m) : CallsH Tryz.prog 26 [.agg (msgC m s).toArray] H fun v H' => ∃ (O : Sl), v = .tuple #[O.val, .bool (!msgBad m)] ∧ Bytes H' O (msgB m) ∧ Ext H H' := by
  refine CallsH.enter h26 Tryz.func26 rfl rfl rfl (by decide) fun u => go ?_
  refine RegS.boxA fun H1 x1 z1 b1 => ?_
  have hm1 := hm.ext x1
  have b1 : Blk H1 H.size 38 (msgC m s) := b1
  refine go ?_
  refine RegS.boxA fun H2 x2 z2 b2 => ?_
  have hB2 : BookAt H2 H1.size H1.size Sl.nil [] false := ⟨b2, OwnR.nil _ _ _ _, by simp [Sl.blk, Sl.nil], Nat.le_refl _⟩
  have bb2 := b1.ext x2
  have e2 : Ext H1 H2 := x2
  have lo1 : 0 < s.hd.len → ∀ b, s.hd.blk = some b → b < H1.size := hm1.hd.lt
  have lo2 : 0 < s.de.len → ∀ b, s.de.blk = some b → b < H1.size := hm1.de.lt
  have lo3 : 0 < s.pa.len → ∀ b, s.pa.blk = some b → b < H1.size := hm1.pa.lt
  have w1 := putB_le [m.kind, m.src, m.to, m.session, m.decided, m.commit, m.epoch]
  have w2 := putB_le [(m.heads.length : Int)]
  have w3 := headsB_le m.heads
  have w4 := layB_le m.id
  have w5 := putB_le [m.size, m.sort, m.target]
  have w6 := putB_le [(m.dealers.length : Int)]
  have w7 := putB_le m.dealers
  have w8 := putB_le [(m.parts.length : Int)]
  have w9 := putB_le m.parts
  have w10 := putB_le [m.code]
  simp only [List.length_cons, List.length_nil] at w1 w2 w5 w6 w8 w10
  obtain ⟨f1, f2, f3, f4, f5, f6, f7⟩ := hf
  have step : ∀ {A B : Heap}, Ext H1 A → Chg (fun b => H1.size ≤ b) A B → Ext H1 B := fun e c => e.then c fun _ h => h
  refine go ?_
  refine RegS.buildSlice fun H3 o3 e3 z3 => ?_
  have r3 : RowF IV 0 H3 (Sl.fresh H2.size 7) [m.kind, m.src, m.to, m.session, m.decided, m.commit, m.epoch] := OwnR.rowF (f := IV) (l := [m.kind, m.src, m.to, m.session, m.decided, m.commit, m.epoch]) o3
  refine go ?_
  refine RegS.call (put_ok _ _ _ _ _ _ _ H3 (hB2.ext e3) r3 (hB2.new e3 fun b hb => OwnR.blk_ge o3 hb) (by simp) (by simp)) ?_
  rintro _ A1 ⟨O1, B1, c1⟩
  have E1 := step (e2.trans e3) c1
  have k1 := b1.ext E1
  rw [List.nil_append, Bool.false_or] at B1
  refine go ?_
  refine RegS.call (heads_ok _ _ _ _ _ _ m.heads A1 B1 (hm1.hd.ext E1) lo1 (by omega) f2 (fun j hj => by have := f3 j hj; omega) (by omega)) ?_
  rintro _ A2 ⟨O2, B2, c2⟩
  have E2 := step E1 c2
  have k2 := b1.ext E2
  refine go ?_
  refine RegS.convStr fun s1 A3 m3 y3 => ?_
  refine go ?_
  refine RegS.call (lay_ok _ _ _ _ _ s1 _ A3 (B2.ext y3) m3 (by omega) (by simp only [List.length_append]; omega)) ?_
  rintro _ A4 ⟨O4, B4, c4⟩
  have E4 := step (E2.trans y3) c4
  have k4 := b1.ext E4
  refine go ?_
  refine RegS.buildSlice fun H5 o5 e5 z5 => ?_
  have r5 : RowF IV 0 H5 (Sl.fresh A4.size 3) [m.size, m.sort, m.target] := OwnR.rowF (f := IV) (l := [m.size, m.sort, m.target]) o5
  refine go ?_
  refine RegS.call (put_ok _ _ _ _ _ _ _ H5 (B4.ext e5) r5 (B4.new e5 fun b hb => OwnR.blk_ge o5 hb) (by simp) (by simp only [List.length_append]; omega)) ?_
  rintro _ A5 ⟨O5, B5, c5⟩
  have E5 := step (E4.trans e5) c5
  have k5 := b1.ext E5
  refine go ?_
  refine RegS.call (ints_ok _ _ _ _ _ _ m.dealers A5 B5 (hm1.de.ext E5) lo2 (by omega) (by simp only [List.length_append]; omega)) ?_
  rintro _ A6 ⟨O6, B6, c6⟩
  have E6 := step E5 c6
  have k6 := b1.ext E6
  refine go ?_
  refine RegS.call (ints_ok _ _ _ _ _ _ m.parts A6 B6 (hm1.pa.ext E6) lo3 (by omega) (by simp only [List.length_append]; omega)) ?_
  rintro _ A7 ⟨O7, B7, c7⟩
  have E7 := step E6 c7
  have k7 := b1.ext E7
  refine go ?_
  refine RegS.buildSlice fun H8 o8 e8 z8 => ?_
  have r8 : RowF IV 0 H8 (Sl.fresh A7.size 1) [m.code] := OwnR.rowF (f := IV) (l := [m.code]) o8
  refine go ?_
  refine RegS.call (put_ok _ _ _ _ _ _ _ H8 (B7.ext e8) r8 (B7.new e8 fun b hb => OwnR.blk_ge o8 hb) (by simp) (by simp only [List.length_append]; omega)) ?_
  rintro _ A8 ⟨O8, B8, c8⟩
  have E8 := step (E7.trans e8) c8
  have k8 := b1.ext E8
  refine go ?_
  refine RegS.call (lay_ok _ _ _ _ _ s.da m.data A8 B8 (hm1.da.ext E8) (by omega) (by simp only [List.length_append]; omega)) ?_
  rintro _ A9 ⟨O9, B9, c9⟩
  have E9 := step E8 c9
  have k9 := B9.blk
  refine go ?_
  refine ret2 ⟨O9, rfl, ?_, x1.trans E9⟩
  have := OwnR.rowF (f := Go.Vc.B8) (dd := 0) B9.own
  exact this
end Go.Proofs.YtaikdcnifijcoaaGreat
set_option linter.unusedVariables false
set_option linter.unusedSimpArgs false
namespace Go.Vc
theorem puts_at : ∀ (us pre rest : List Value), us.length ≤ rest.length → puts (pre ++ rest) pre.length us = pre ++ us ++ rest.drop us.length
  | [], pre, rest, _ => by simp [puts]
  | v :: r, pre, [], h => absurd h (by simp)
  | v :: r, pre, x :: rest, h => by
    have e : (pre ++ x :: rest).set pre.length v = (pre ++ [v]) ++ rest := by
      rw [List.set_append_right _ _ (Nat.le_refl _)]; simp
    have e2 : pre.length + 1 = (pre ++ [v]).length := by simp
    rw [puts, e, e2, puts_at r (pre ++ [v]) rest (by simpa using h)]
    simp
theorem puts_zero {us cs : List Value} (h : us.length ≤ cs.length) : puts cs 0 us = us ++ cs.drop us.length := by
  have := puts_at us [] cs h
  simpa using this
theorem OwnR.toBlk {H : Heap} {base g n : Nat} {e : TypeId} {xs : List Value} (h : OwnR H base e 1 (Sl.fresh g n) xs) : Blk H g e xs := by
  obtain ⟨h1, h2⟩ := h
  rcases h2 with h2 | ⟨g', cur, ha, hg, hh, hl, hm, hc, ht⟩
  · simp [Sl.fresh] at h2
  · simp only [Sl.fresh, Option.some.injEq, Addr.mk.injEq, and_true] at ha
    subst ha
    refine ⟨?_⟩
    have hc' : cur.size = n := by simpa [Sl.fresh] using hc
    have : cur.toList = xs := by
      rw [← ht, List.take_of_length_le]
      simp [Sl.fresh]; omega
    rw [hh, ← this]
theorem OwnR.ofBlk {H : Heap} {base g n : Nat} {e : TypeId} {xs : List Value} (h : Blk H g e xs) (hb : base ≤ g) (hn : xs.length = n) (hm : n ≤ maxLen) : OwnR H base e 1 (Sl.fresh g n) xs :=
  ⟨by simp [Sl.fresh, hn], .inr ⟨g, xs.toArray, rfl, hb, h.at_, Nat.le_refl _, hm, by simp [Sl.fresh, hn], by simp [Sl.fresh, ← hn]⟩⟩
section
variable {C : Cx} {o : Oper} {L : Env} {H : Heap}
theorem Ef.copyB [Tbl C.P] {t u e e' g n sz bt bytes : Nat} {z z' : Value} {d : TypeDesc} {x y : Operand} {r : Sl} {vs ys : List Value} {K : Value → Heap → Prop}
    (ho : o.op = .call { callee := .builtin .copy, args := #[x, y], argTypes := #[t, u] }) (hx : L.ev x = some (Sl.fresh g n).val) (hy : L.ev y = some r.val)
    (ht : ty C.P t = some ⟨.slice e, sz, bt, z⟩) (he : ty C.P e = some ⟨d, 1, bytes, z'⟩) (hb : Blk H g e' vs) (hn : vs.length = n) (hr : Row H r ys) (hl : ys.length ≤ n) (h1 : ∀ v ∈ ys, oneCell v = true)
    (hk : K (.int .i64 (ys.length : Int)) (hsets H g 0 ys)) : Ef C o L H K :=
  Ef.of (by rw [ho]; rfl) fun act w ha hw => by
    have e1 := agr_of ha hx (by rw [ho]; simp [Op.operands, Call.operands])
    have e2 := agr_of ha hy (by rw [ho]; simp [Op.operands, Call.operands])
    subst hw
    obtain ⟨i, hi, hz1, hs1, hb1⟩ := ty.info he
    have hrl := hr.len
    have hrun : (Builtin.copy_ #[t, u] o.type #[(Sl.fresh g n).val, r.val]).run C.P w = .ok (goInt ys.length) (w.setCells g 0 ys) := by
      cases hro : r.ao with
      | none =>
        obtain ⟨h3, h4⟩ := r.ok hro
        have hys : ys = [] := List.eq_nil_of_length_eq_zero (by omega)
        subst hys
        have := run_copy_none (P := C.P) w t u o.type e (some ⟨g, 0, none⟩) none n n 0 0 (Tbl.ok.find ht).1 (by rw [hi]; simp [hs1]) (by simp)
        simpa [Sl.val, Sl.fresh, hro, h3, h4, World.setCells] using this
      | some ad =>
        have := run_copy_cells (P := C.P) w t u o.type e g 0 n n ad r.len r.cap ys (Tbl.ok.find ht).1 (by rw [hi]; simp [hs1]) (by rw [hrl]; exact (Nat.min_eq_left (by omega)).symm)
          (fun j v hj => by rw [add_eq_cell r ad hro]; exact hr.cell j v hj) (fun j hj => by
            rw [show w.cell? ⟨g, 0 + j, none⟩ = hcell w.heap ⟨g, 0 + j, none⟩ from rfl, blk_cell hb.at_]
            simp; omega) (fun j hj => blk_free hb.at_) (fun v hv => oneCell_of (h1 v hv))
        simpa [Sl.val, Sl.fresh, hro] using this
    refine .inl ⟨.int .i64 (ys.length : Int), w.setCells g 0 ys, ?_, setCells_sim g ys 0 w, by rw [setCells_heap]; exact hk⟩
    simp [execOp, ho, resolve, invoke, builtin, e1, e2, hrun, Result.andThen, Sem.run_bind, Sem.run, goInt]
end
section
variable {C : Cx} {ops : Array Oper} {l : List Oper} {L : Env} {ds : List Nat} {H : Heap} {Kk : Env → Heap → Prop} {o : Oper}
theorem RegS.copyB [Tbl C.P] {t u e e' g n sz bt bytes dst : Nat} {z z' : Value} {d : TypeDesc} {x y : Operand} {r : Sl} {vs ys : List Value} (hb : Blk H g e' vs) (hn : vs.length = n) (hr : Row H r ys) (hl : ys.length ≤ n) (h1 : ∀ v ∈ ys, oneCell v = true)
    (k : RegS C ops l ((dst, .int .i64 (ys.length : Int)) :: L) ds (hsets H g 0 ys) Kk)
    (ho : o.op = .call { callee := .builtin .copy, args := #[x, y], argTypes := #[t, u] } := by rfl) (hx : L.ev x = some (Sl.fresh g n).val := by rfl) (hy : L.ev y = some r.val := by rfl)
    (ht : ty C.P t = some ⟨.slice e, sz, bt, z⟩ := by rfl) (he : ty C.P e = some ⟨d, 1, bytes, z'⟩ := by rfl)
    (hds : o.dst = some dst := by rfl) (hg : gd ops o L = some true := by rfl) (hdd : Nat.blt dst C.N = true := by rfl) : RegS C ops (o :: l) L ds H Kk :=
  RegS.ef hg (by rw [hds]; exact hdd) (Ef.copyB ho hx hy ht he hb hn hr hl h1 (by rw [hds]; exact k))
end
theorem Mat.keep {B base : Nat} {A A' : Heap} {e : TypeId} {t : Sl} {ss : List Sl} {m : List (List UInt8)} (h : Mat A base e t ss m) (k : Keep B A A') : Mat A' base e t ss m :=
  ⟨OwnR.keep h.arr k, h.len, fun j hj => (h.each j hj).keep k, h.diff, h.apart⟩
end Go.Vc
