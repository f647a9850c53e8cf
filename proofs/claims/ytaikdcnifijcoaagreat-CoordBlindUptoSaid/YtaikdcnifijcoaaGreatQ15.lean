/-
  The calculus, part 19: structs of two parts, compared.
-/
import Derived.Test.YtaikdcnifijcoaaGreatQ08
import Derived.Test.YtaikdcnifijcoaaGreatQ12
import Derived.Test.YtaikdcnifijcoaaGreatQ14
import Derived.Laws.StructEq
set_option linter.unusedVariables false
set_option linter.unusedSimpArgs false
namespace Go.Proofs.YtaikdcnifijcoaaGreat
open Go Go.Vc Go.Gf
theorem ofNat_mod (n : Nat) : UInt8.ofNat (n % 256) = UInt8.ofNat n := by
  apply UInt8.toNat_inj.1; simp
theorem intB_four {n : Int} {m : Nat} (h : n = (m : Int) - 2) (hm : m ≤ 2147483647) : intB n = [UInt8.ofNat (m >>> 24), UInt8.ofNat (m >>> 16), UInt8.ofNat (m >>> 8), UInt8.ofNat m] := by
  subst h
  rw [intB, if_neg (by omega), show ((m : Int) - 2 + 2).toNat = m by omega]
  simp only [Nat.shiftRight_eq_div_pow, ofNat_mod]
/-- A writer that grows. -/
structure PenAt (A : Heap) (base wb : Nat) (O : Sl) (out : List UInt8) (bad : Bool) : Prop where
  blk : Blk A wb 270 [O.val, .bool bad]
  own : OwnF B8 A base 5 O out
  ne : O.blk ≠ some wb
  ge : base ≤ wb
section
variable {A A' : Heap} {base wb : Nat} {O s : Sl} {out : List UInt8} {bad : Bool}
theorem PenAt.ext (h : PenAt A base wb O out bad) (e : Ext A A') : PenAt A' base wb O out bad := ⟨h.blk.ext e, h.own.ext e, h.ne, h.ge⟩
theorem PenAt.size (h : PenAt A base wb O out bad) : base ≤ A.size := by have := h.blk.lt; have := h.ge; omega
theorem PenAt.old (h : PenAt A base wb O out bad) (hs : 0 < s.len → ∀ b, s.blk = some b → b < base) : Apart A wb O s := fun hp b hb =>
  ⟨by have := hs hp b hb; have := h.size; omega, by have := hs hp b hb; have := h.ge; omega, fun ho => by have := hs hp b hb; have := (h.own.blk_ge ho).1; omega⟩
theorem PenAt.new (h : PenAt A base wb O out bad) (e : Ext A A') (hs : ∀ b, s.blk = some b → A.size ≤ b ∧ b < A'.size) : Apart A' wb O s := fun _ b hb =>
  ⟨(hs b hb).2, by have := (hs b hb).1; have := h.blk.lt; omega, fun ho => by have := (hs b hb).1; have := (h.own.blk_ge ho).2; omega⟩
end
theorem wnew_ok (H : Heap) : CallsH Tryz.prog 209 [] H fun v H' => v = ptrD H.size ∧ PenAt H' H.size H.size Sl.nil [] false ∧ Ext H H' := by
  refine CallsH.enter h209 Tryz.func209 rfl rfl rfl (by decide) fun u => run ?_
  refine RegS.boxA fun H1 x1 z1 b1 => ?_
  refine run ?_
  exact ret1 ⟨rfl, ⟨b1, OwnR.nil _ _ _ _, by simp [Sl.blk, Sl.nil], Nat.le_refl _⟩, x1⟩
/-- What a writer's own steps turn. -/
structure PenTo (H H' : Heap) (wb : Nat) (O O' : Sl) : Prop where
  chg : Chg (fun b => b = wb ∨ O.blk = some b) H H'
  blk : O'.blk = O.blk ∨ ∃ b, O'.blk = some b ∧ H.size ≤ b
theorem penE {H H' : Heap} {wb : Nat} {O : Sl} (e : Ext H H') : PenTo H H' wb O O := ⟨e.chg _, .inl rfl⟩
theorem PenTo.trans {H A B : Heap} {wb : Nat} {O P Q : Sl} (h : PenTo H A wb O P) (k : PenTo A B wb P Q) : PenTo H B wb O Q := by
  refine ⟨⟨Nat.le_trans h.chg.size k.chg.size, fun b hb hn => ?_⟩, ?_⟩
  · refine (k.chg.get b (Nat.lt_of_lt_of_le hb h.chg.size) fun hs => ?_).trans (h.chg.get b hb hn)
    rcases hs with hs | hs
    · exact hn (.inl hs)
    · rcases h.blk with e | ⟨b', e, hz⟩
      · rw [e] at hs; exact hn (.inr hs)
      · rw [e] at hs; simp only [Option.some.injEq] at hs; omega
  · rcases k.blk with e | ⟨b', e, hz⟩
    · rw [e]; exact h.blk
    · exact .inr ⟨b', e, Nat.le_trans h.chg.size hz⟩
theorem PenTo.apart {H A : Heap} {wb : Nat} {O P s : Sl} (h : PenTo H A wb O P) (ha : Apart H wb O s) : Apart A wb P s := fun hp b hb => by
  have h3 := ha hp b hb
  refine ⟨Nat.lt_of_lt_of_le h3.1 h.chg.size, h3.2.1, fun hx => ?_⟩
  rcases h.blk with e | ⟨b', e, hz⟩
  · rw [e] at hx; exact h3.2.2 hx
  · rw [e] at hx; simp only [Option.some.injEq] at hx; have := h3.1; omega
theorem PenTo.row {β : Type} {f : β → Value} {d : β} {H A : Heap} {wb : Nat} {O P s : Sl} {l : List β} (h : PenTo H A wb O P) (ha : Apart H wb O s) (hs : RowF f d H s l) : RowF f d A s l :=
  hs.chgN h.chg fun hp b hb => ⟨(ha hp b hb).1, fun e => e.elim (ha hp b hb).2.1 (ha hp b hb).2.2⟩
/-- What is appended, and stored: a writer again. -/
theorem PenAt.put {A A' : Heap} {base wb : Nat} {O P : Sl} {out more : List UInt8} {bad : Bool} (h : PenAt A base wb O out bad) (o : OwnF B8 A' base 5 P (out ++ more)) (c : Chg (fun b => O.blk = some b) A A') (hb : P.blk = O.blk ∨ ∃ b, P.blk = some b ∧ A.size ≤ b) :
    PenAt (hset A' ⟨wb, 0, none⟩ P.val) base wb P (out ++ more) bad ∧ PenTo A (hset A' ⟨wb, 0, none⟩ P.val) wb O P ∧ Wr A' ⟨wb, 0, none⟩ ∧ Blk A' wb 270 [O.val, .bool bad] := by
  have k := h.blk.chg c fun e => h.ne e
  have c2 := hset_chg A' ⟨wb, 0, none⟩ P.val
  have hne : P.blk ≠ some wb := by
    rcases hb with e | ⟨b', e, hz⟩
    · rw [e]; exact h.ne
    · rw [e]; simp only [ne_eq, Option.some.injEq]; have := h.blk.lt; omega
  exact ⟨⟨Blk.set (j := 0) (v := P.val) k, OwnR.chg o c2 fun b hb hb' => by simp only at hb'; subst hb'; exact hne hb, hne, h.ge⟩,
    ⟨(c.mono fun b _ hb => .inr hb).trans (c2.mono fun b _ hb => .inl hb), hb⟩, Blk.wr k (by simp), k⟩
theorem PenAt.spoil {A : Heap} {base wb : Nat} {O : Sl} {out : List UInt8} {bad : Bool} (h : PenAt A base wb O out bad) :
    PenAt (hset A ⟨wb, 1, none⟩ (.bool true)) base wb O out true ∧ PenTo A (hset A ⟨wb, 1, none⟩ (.bool true)) wb O O := by
  have c2 := hset_chg A ⟨wb, 1, none⟩ (.bool true)
  exact ⟨⟨Blk.set (j := 1) (v := .bool true) h.blk, OwnR.chg h.own c2 fun b hb hb' => by simp only at hb'; subst hb'; exact h.ne hb, h.ne, h.ge⟩, c2.mono fun b _ hb => .inl hb, .inl rfl⟩
section
variable {base wb : Nat} {O : Sl} {out : List UInt8} {bad : Bool} {H : Heap}
theorem wint_ok (n : Int) (hB : PenAt H base wb O out bad) (ho : out.length ≤ 100000000) : CallsH Tryz.prog 212 [ptrD wb, IV n] H fun v H' => ∃ O', PenAt H' base wb O' (out ++ intB n) (bad || badI [n]) ∧ PenTo H H' wb O O' := by
  have k := hB.blk
  refine CallsH.enter h212 Tryz.func212 rfl rfl rfl (by decide) fun u => run ?_
  by_cases hb : n < -2 ∨ 2147483645 < n
  · have e1 : intB n = [] := by rw [intB, if_pos hb]
    have e2 : (bad || badI [n]) = true := by simp [badI, hb]
    obtain ⟨p1, p2⟩ := hB.spoil
    rw [e1, e2, List.append_nil]
    by_cases h1 : n < -2
    all_goals
      refine run ?_
      refine RegS.store (v := .bool true) (Blk.wr k (j := 1) (by simp)) ?_
      refine run ?_
      exact ret0 ⟨O, p1, p2⟩
  · obtain ⟨m, hm⟩ : ∃ m : Nat, n = (m : Int) - 2 := ⟨(n + 2).toNat, by omega⟩
    have e2 : (bad || badI [n]) = bad := by simp only [badI, List.any_cons, List.any_nil, decide_eq_false hb]; simp
    have e1 := intB_four hm (by omega)
    rw [e1, e2]
    subst hm
    refine run ?_
    rw [show (m : Int) - 2 + ((2 : Nat) : Int) = (m : Int) by omega]
    refine run ?_
    refine RegS.buildSlice fun H1 o1 y1 w1 => ?_
    have r1 : Bytes H1 (Sl.fresh H.size 4) [UInt8.ofNat (m >>> 24), UInt8.ofNat (m >>> 16), UInt8.ofNat (m >>> 8), UInt8.ofNat m] := OwnR.rowF (f := B8) (l := [UInt8.ofNat (m >>> 24), UInt8.ofNat (m >>> 16), UInt8.ofNat (m >>> 8), UInt8.ofNat m]) o1
    have hB1 := hB.ext y1
    have z := hB1.size
    refine run ?_
    refine RegS.append (f := B8) hB1.own r1 (fun _ => rfl) (by omega) ?_ ?_ ?_
    · simp only [List.length_cons, List.length_nil]; omega
    · simp only [List.length_cons, List.length_nil]; omega
    intro P H2 o2 c2 b2
    obtain ⟨p1, p2, p3, p4⟩ := hB1.put o2 c2 b2
    refine run ?_
    refine RegS.store (v := P.val) p3 ?_
    refine run ?_
    exact ret0n ⟨P, p1, (penE y1).trans p2⟩
theorem lay_two {n : Nat} : [UInt8.ofNat (n / 256), UInt8.ofNat (n % 256)] = [UInt8.ofNat (n >>> 8), UInt8.ofNat n] := by
  simp only [Nat.shiftRight_eq_div_pow, ofNat_mod]
set_option maxHeartbeats 2000000 in
theorem wbytes_ok (s : Sl) (l : List UInt8) (hB : PenAt H base wb O out bad) (hs : Bytes H s l) (ha : Apart H wb O s) (hl : l.length ≤ 4000000) (ho : out.length ≤ 100000000) : CallsH Tryz.prog 211 [ptrD wb, s.val] H fun v H' => ∃ O', PenAt H' base wb O' (out ++ layB l) (bad || badL l) ∧ PenTo H H' wb O O' := by
  have k := hB.blk
  refine CallsH.enter h211 Tryz.func211 rfl rfl rfl (by decide) fun u => run ?_
  refine Wp.br (fun h => ?_) (fun h => ?_)
  · have h : ((65535 : Nat) : Int) < (l.length : Int) := h
    have e1 : layB l = [] := by rw [layB, if_pos (by omega)]
    have e2 : (bad || badL l) = true := by rw [badL, decide_eq_true (by omega)]; simp
    obtain ⟨p1, p2⟩ := hB.spoil
    rw [e1, e2, List.append_nil]
    refine run ?_
    refine RegS.store (v := .bool true) (Blk.wr k (j := 1) (by simp)) ?_
    refine run ?_
    exact ret0 ⟨O, p1, p2⟩
  have h : ¬ ((65535 : Nat) : Int) < (l.length : Int) := h
  have e2 : (bad || badL l) = bad := by rw [badL, decide_eq_false (by omega)]; simp
  rw [e2, layB, if_neg (by omega), lay_two]
  refine run ?_
  refine RegS.buildSlice fun H1 o1 y1 w1 => ?_
  have r1 : Bytes H1 (Sl.fresh H.size 2) [UInt8.ofNat (l.length >>> 8), UInt8.ofNat l.length] := OwnR.rowF (f := B8) (l := [UInt8.ofNat (l.length >>> 8), UInt8.ofNat l.length]) o1
  have hB1 := hB.ext y1
  have hs1 := hs.ext y1
  have z := hB1.size
  have zy := y1.size
  refine run ?_
  refine RegS.append (f := B8) hB1.own r1 (fun _ => rfl) (by omega) ?_ ?_ ?_
  · simp only [List.length_cons, List.length_nil]; omega
  · simp only [List.length_cons, List.length_nil]; omega
  intro P H2 o2 c2 b2
  obtain ⟨p1, p2, p3, p4⟩ := hB1.put o2 c2 b2
  have hto := (penE y1).trans p2
  have hs3 := hto.row ha hs
  have hap := hto.apart ha
  refine run ?_
  refine RegS.store (v := P.val) p3 ?_
  generalize hset H2 ⟨wb, 0, none⟩ P.val = H3 at p1 p2 hto hs3 hap ⊢
  have k3 := p1.blk
  have z3 := p1.size
  refine run ?_
  refine RegS.append (f := B8) p1.own hs3 (fun _ => rfl) (by omega) ?_ ?_ ?_
  · simp only [List.length_append, List.length_cons, List.length_nil]; omega
  · simp only [List.length_append, List.length_cons, List.length_nil]; omega
  intro P' H4 o4 c4 b4
  obtain ⟨q1, q2, q3, q4⟩ := p1.put o4 c4 b4
  refine run ?_
  refine RegS.store (v := P'.val) q3 ?_
  refine run ?_
  rw [List.append_assoc] at q1
  exact ret0n ⟨P', q1, hto.trans q2⟩
theorem out_ok (hB : PenAt H base wb O out bad) (ho : out.length ≤ 200000000) : CallsH Tryz.prog 214 [ptrD wb] H fun v H' => ∃ s : Sl, v = .tuple #[s.val, .bool (!bad)] ∧ Bytes H' s (if bad = true then [] else out) ∧ Ext H H' ∧ ∀ b, s.blk = some b → H.size ≤ b := by
  have k := hB.blk
  refine CallsH.enter h214 Tryz.func214 rfl rfl rfl (by decide) fun u => run ?_
  cases bad with
  | true =>
    refine run ?_
    exact ret2 ⟨Sl.nil, rfl, Bytes.nil _, Ext.refl _, fun b hb => by simp [Sl.blk, Sl.nil] at hb⟩
  | false =>
    have r := hB.own.rowF (f := B8) (dd := 0)
    refine run ?_
    refine RegS.call (clone_ok O out H r (by omega)) ?_
    rintro _ H1 ⟨c, rfl, oc, x1⟩
    refine run ?_
    refine RegS.call (clip_ok c out H.size H1 (OwnR.mine oc)) ?_
    rintro _ _ ⟨rfl, rfl⟩
    have hcl := oc.rowF (f := B8) (dd := 0)
    have hle := c.le
    have hh : 0 ≤ c.len ∧ c.len ≤ c.len ∧ c.len ≤ c.cap := by omega
    have hc := hcl.cut hh (by rw [hcl.len]; omega)
    rw [List.drop_zero, hcl.len, List.take_length, ← hcl.len] at hc
    refine run ?_
    exact ret2 ⟨_, rfl, hc, x1, fun b hb => (oc.blk_ge (Sl.cut_blk hb)).1⟩
theorem pints_ok (s : Sl) (l : List Int) (hB : PenAt H base wb O out bad) (hs : RowF IV 0 H s l) (ha : Apart H wb O s) (hl : l.length ≤ 4000000) (ho : out.length ≤ 80000000) : CallsH Tryz.prog 210 [.agg #[ptrD wb], s.val] H fun v H' => ∃ O', PenAt H' base wb O' (out ++ putB l) (bad || badI l) ∧ PenTo H H' wb O O' := by
  refine CallsH.enter h210 Tryz.func210 rfl rfl rfl (by decide) fun u => go ?_
  refine RegS.boxA fun H1 x1 z1 b1 => ?_
  have hs1 := hs.ext x1
  refine run ?_
  refine Wp.loop (ι := Nat × Sl) (fun i => [(2, ptrD H.size), (6, s.val), (7, I64 l.length), (8, I64 i.1)]) (fun i A => i.1 ≤ l.length ∧ PenAt A base wb i.2 (out ++ putB (l.take i.1)) (bad || badI (l.take i.1)) ∧ PenTo H1 A wb O i.2 ∧ Blk A H.size 246 [ptrD wb]) (fun i => l.length - i.1) (0, O) subs ⟨Nat.zero_le _, by simpa [putB, badI] using hB.ext x1, penE (Ext.refl _), b1⟩ ?_
  rintro ⟨i, P⟩ A ⟨hi, pA, tA, bA⟩
  have hi : i ≤ l.length := hi
  have pA : PenAt A base wb P (out ++ putB (l.take i)) (bad || badI (l.take i)) := pA
  have sA := tA.row (ha.ext x1) hs1
  have hpl := putB_le (l.take i)
  have htk : (l.take i).length = i := by rw [List.length_take]; omega
  refine run ?_
  refine Wp.br (fun hlt => ?_) (fun hlt => ?_)
  case refine_2 =>
    have hlt : ¬ (i : Int) < (l.length : Int) := hlt
    have : i = l.length := by omega
    subst this
    rw [List.take_length] at pA
    refine run ?_
    exact ret0n ⟨P, pA, (penE x1).trans tA⟩
  have hlt : (i : Int) < (l.length : Int) := hlt
  have hx : l.take (i + 1) = l.take i ++ [l.getD i 0] := by
    rw [List.take_add_one, List.getElem?_eq_getElem (by omega)]
    simp [List.getD_eq_getElem?_getD, show i < l.length by omega]
  refine run ?_
  refine RegS.call (wint_ok (l.getD i 0) pA (by rw [List.length_append]; omega)) ?_
  rintro _ A1 ⟨P1, pA1, tA1⟩
  have hne : ∀ b, (b = wb ∨ P.blk = some b) → b ≠ H.size := fun b hb e => by
    subst e
    rcases hb with hb | hb
    · have := hB.blk.lt; omega
    · rcases tA.blk with e' | ⟨b', e', hz⟩
      · rw [e'] at hb; have := (hB.own.blk_ge hb).2; omega
      · rw [e'] at hb; simp only [Option.some.injEq] at hb; omega
  have bA1 := bA.chg tA1.chg fun e => hne _ e rfl
  refine run ?_
  refine roundQ_n (i + 1, P1) subs ⟨by simp only; omega, ?_, tA.trans tA1, bA1⟩ (by simp only; omega)
  show PenAt A1 base wb P1 (out ++ putB (l.take (i + 1))) (bad || badI (l.take (i + 1)))
  rw [hx, putB_snoc, badI_snoc, ← List.append_assoc, ← Bool.or_assoc]
  exact pA1
end
end Go.Proofs.YtaikdcnifijcoaaGreat
set_option linter.unusedVariables false
set_option linter.unusedSimpArgs false
namespace Go.Vc
theorem run_eqFields2 {P : Program} [Tbl P] (w : World) {d : Nat} {f0 f1 : Field} {u0 u1 v0 v1 : Value} {p0 p1 : Bool} {i0 i1 : TI} (hn0 : f0.name ≠ "_") (hn1 : f1.name ≠ "_") (o0 : f0.offset = 0) (o1 : f1.offset = 1) (t0 : ty P f0.type = some i0) (t1 : ty P f1.type = some i1)
    (g0 : isAggD i0.desc = false) (g1 : isAggD i1.desc = false) (e0 : (Op.equalIn d f0.type u0 v0).run P w = .ok p0 w) (e1 : (Op.equalIn d f1.type u1 v1).run P w = .ok p1 w) :
    (Op.eqFields d #[u0, u1] #[v0, v1] [f0, f1]).run P w = .ok (p0 && p1) w := by
  have a0 := ty.agg t0 w
  have a1 := ty.agg t1 w
  rw [g0] at a0
  rw [g1] at a1
  have k0 : ∀ x y, (part f0.type #[x, y] 0).run P w = .ok x w := fun x y => by simp only [part, Sem.run_bind, a0, Result.andThen]; rfl
  have k1 : ∀ x y, (part f1.type #[x, y] 1).run P w = .ok y w := fun x y => by simp only [part, Sem.run_bind, a1, Result.andThen]; rfl
  simp only [Op.eqFields, hn0, hn1, ne_eq, not_false_eq_true, if_true, Sem.run_bind, o0, o1, k0, k1, e0, Result.andThen]
  cases p0
  · rfl
  · simp only [Bool.not_true, Bool.false_eq_true, if_false, Sem.run_bind, k1, e1, Result.andThen]
    cases p1 <;> rfl
section
variable {C : Cx} {o : Oper} {L : Env} {H : Heap}
theorem run_eqTwo {P : Program} [Tbl P] (w : World) {t : TypeId} {f0 f1 : Field} {sz bt : Nat} {z u0 u1 v0 v1 : Value} {p0 p1 : Bool} {i0 i1 : TI} {x y : Operand} (ht : ty P t = some ⟨.struct #[f0, f1], sz, bt, z⟩) (hs : P.stoodInHeld t = false) (hg : P.eqGuardType P.depth t = false)
    (hn0 : f0.name ≠ "_") (hn1 : f1.name ≠ "_") (o0 : f0.offset = 0) (o1 : f1.offset = 1) (t0 : ty P f0.type = some i0) (t1 : ty P f1.type = some i1)
    (g0 : isAggD i0.desc = false) (g1 : isAggD i1.desc = false) (e0 : (Op.equalIn 9999 f0.type u0 v0).run P w = .ok p0 w) (e1 : (Op.equalIn 9999 f1.type u1 v1).run P w = .ok p1 w) :
    (binOp .eql t (.agg #[u0, u1]) (.agg #[v0, v1])).run P w = .ok (.bool (p0 && p1)) w ∧ (binOp .neq t (.agg #[u0, u1]) (.agg #[v0, v1])).run P w = .ok (.bool (!(p0 && p1))) w ∧ ∀ op, (eqGuard op t x y (.agg #[u0, u1]) (.agg #[v0, v1])).run P w = .ok () w := by
  have hu := (Tbl.ok.find ht).1
  have hf : P.fieldsOf t = #[f0, f1] := by simp only [Program.fieldsOf, hu]
  have h1 := run_equalIn_struct (P := P) w 9999 t #[u0, u1] #[v0, v1] (by rw [hf]; exact hu) hs
  rw [hf] at h1
  have h2 := run_eqFields2 w hn0 hn1 o0 o1 t0 t1 g0 g1 e0 e1
  have h3 : (Op.equalIn 10000 t (.agg #[u0, u1]) (.agg #[v0, v1])).run P w = .ok (p0 && p1) w := h1.trans h2
  refine ⟨?_, ?_, fun op => run_eqGuard_agg w op t x y _ _ hg⟩
  · rw [run_eql_struct, h3]; rfl
  · rw [run_neq_struct, h3]; rfl
/-- Which types of two parts may be compared. -/
theorem Rd.eqTwo [Tbl C.P] {neg : Bool} {x y : Operand} {t t' : TypeId} {f0 f1 : Field} {sz bt : Nat} {z u0 u1 v0 v1 : Value} {p0 p1 : Bool} {i0 i1 : TI} (ho : o.op = .binOp (if neg then .neq else .eql) t x y t') (hx : L.ev x = some (.agg #[u0, u1])) (hy : L.ev y = some (.agg #[v0, v1]))
    (ht : ty C.P t = some ⟨.struct #[f0, f1], sz, bt, z⟩) (hs : C.P.stoodInHeld t = false) (hg : C.P.eqGuardType C.P.depth t = false)
    (hn0 : f0.name ≠ "_") (hn1 : f1.name ≠ "_") (o0 : f0.offset = 0) (o1 : f1.offset = 1) (t0 : ty C.P f0.type = some i0) (t1 : ty C.P f1.type = some i1)
    (g0 : isAggD i0.desc = false) (g1 : isAggD i1.desc = false) (e0 : ∀ w, (Op.equalIn 9999 f0.type u0 v0).run C.P w = .ok p0 w) (e1 : ∀ w, (Op.equalIn 9999 f1.type u1 v1).run C.P w = .ok p1 w) :
    Rd C o L H (.bool (if neg then !(p0 && p1) else (p0 && p1))) :=
  Rd.of (by rw [ho]; rfl) fun act w ha ex => by
    have h1 := agr_of ha hx (by rw [ho]; simp [Op.operands])
    have h2 := agr_of ha hy (by rw [ho]; simp [Op.operands])
    obtain ⟨r1, r2, r3⟩ := run_eqTwo (P := C.P) w (x := x) (y := y) ht hs hg hn0 hn1 o0 o1 t0 t1 g0 g1 (e0 w) (e1 w)
    cases neg
    · simp only [execOp, ho, h1, h2, Sem.run_bind, r3, Result.andThen, Bool.false_eq_true, if_false, r1]; rfl
    · simp only [execOp, ho, h1, h2, Sem.run_bind, r3, Result.andThen, if_true, r2]; rfl
theorem eqI {P : Program} [Tbl P] {t sz bt : Nat} {z : Value} {a b : Int} (h : ty P t = some ⟨.int .i64, sz, bt, z⟩) (w : World) : (Op.equalIn 9999 t (.int .i64 a) (.int .i64 b)).run P w = .ok (dec (a = b)) w := by
  rw [run_equalIn_int w 9998 t .i64 .i64 a b (Tbl.ok.find h).1, beqd, dec_decide]
theorem eqS {P : Program} [Tbl P] {t sz bt : Nat} {z : Value} {a b : List UInt8} (h : ty P t = some ⟨.string, sz, bt, z⟩) (w : World) : (Op.equalIn 9999 t (S a) (S b)).run P w = .ok (dec (a = b)) w := by
  have := run_equalIn_string w 9998 t ⟨a.toArray⟩ ⟨b.toArray⟩ (Tbl.ok.find h).1
  simp only [S]
  rw [this, bytes_toList, bytes_toList]
  congr 1
  by_cases e : a = b <;> simp [e, dec_pos, dec_neg]
theorem dec_and {p q : Prop} : (dec p && dec q) = dec (p ∧ q) := by
  by_cases hp : p <;> by_cases hq : q <;> simp [dec_pos, dec_neg, hp, hq]
theorem dec_nand {p q : Prop} : (!(dec p && dec q)) = dec (¬ (p ∧ q)) := by rw [dec_and, dec_not]
theorem Rd.eqlII [Tbl C.P] {x y : Operand} {t t' : TypeId} {f0 f1 : Field} {sz bt sz0 bt0 sz1 bt1 : Nat} {z z0 z1 : Value} {a b c d : Int} (ho : o.op = .binOp .eql t x y t') (hx : L.ev x = some (.agg #[.int .i64 a, .int .i64 b])) (hy : L.ev y = some (.agg #[.int .i64 c, .int .i64 d]))
    (ht : ty C.P t = some ⟨.struct #[f0, f1], sz, bt, z⟩) (hs : C.P.stoodInHeld t = false) (hg : C.P.eqGuardType C.P.depth t = false)
    (hn0 : f0.name ≠ "_") (hn1 : f1.name ≠ "_") (o0 : f0.offset = 0) (o1 : f1.offset = 1) (t0 : ty C.P f0.type = some ⟨.int .i64, sz0, bt0, z0⟩) (t1 : ty C.P f1.type = some ⟨.int .i64, sz1, bt1, z1⟩) : Rd C o L H (.bool (dec (a = c ∧ b = d))) := by
  rw [← dec_and]
  exact Rd.eqTwo (neg := false) ho hx hy ht hs hg hn0 hn1 o0 o1 t0 t1 rfl rfl (eqI t0) (eqI t1)
theorem Rd.neqSI [Tbl C.P] {x y : Operand} {t t' : TypeId} {f0 f1 : Field} {sz bt sz0 bt0 sz1 bt1 : Nat} {z z0 z1 : Value} {a c : List UInt8} {b d : Int} (ho : o.op = .binOp .neq t x y t') (hx : L.ev x = some (.agg #[S a, .int .i64 b])) (hy : L.ev y = some (.agg #[S c, .int .i64 d]))
    (ht : ty C.P t = some ⟨.struct #[f0, f1], sz, bt, z⟩) (hs : C.P.stoodInHeld t = false) (hg : C.P.eqGuardType C.P.depth t = false)
    (hn0 : f0.name ≠ "_") (hn1 : f1.name ≠ "_") (o0 : f0.offset = 0) (o1 : f1.offset = 1) (t0 : ty C.P f0.type = some ⟨.string, sz0, bt0, z0⟩) (t1 : ty C.P f1.type = some ⟨.int .i64, sz1, bt1, z1⟩) : Rd C o L H (.bool (dec (¬ (a = c ∧ b = d)))) := by
  rw [← dec_nand]
  exact Rd.eqTwo (neg := true) ho hx hy ht hs hg hn0 hn1 o0 o1 t0 t1 rfl rfl (eqS t0) (eqI t1)
end
section
variable {C : Cx} {o : Oper} {L : Env} {H : Heap}
/-- copy, of as many as there is room for. -/
theorem Ef.copyM [Tbl C.P] {t u e e' g n sz bt bytes : Nat} {z z' : Value} {d : TypeDesc} {x y : Operand} {r : Sl} {vs zs : List Value} {K : Value → Heap → Prop}
    (ho : o.op = .call { callee := .builtin .copy, args := #[x, y], argTypes := #[t, u] }) (hx : L.ev x = some (Sl.fresh g n).val) (hy : L.ev y = some r.val)
    (ht : ty C.P t = some ⟨.slice e, sz, bt, z⟩) (he : ty C.P e = some ⟨d, 1, bytes, z'⟩) (hb : Blk H g e' vs) (hn : vs.length = n) (hr : Row H r zs) (h1 : ∀ v ∈ zs, oneCell v = true)
    (hk : K (.int .i64 ((zs.take n).length : Int)) (hsets H g 0 (zs.take n))) : Ef C o L H K :=
  Ef.of (by rw [ho]; rfl) fun act w ha hw => by
    have e1 := agr_of ha hx (by rw [ho]; simp [Op.operands, Call.operands])
    have e2 := agr_of ha hy (by rw [ho]; simp [Op.operands, Call.operands])
    subst hw
    obtain ⟨i, hi, hz1, hs1, hb1⟩ := ty.info he
    have hrl := hr.len
    have hrun : (Builtin.copy_ #[t, u] o.type #[(Sl.fresh g n).val, r.val]).run C.P w = .ok (goInt (zs.take n).length) (w.setCells g 0 (zs.take n)) := by
      cases hro : r.ao with
      | none =>
        obtain ⟨h3, h4⟩ := r.ok hro
        have hys : zs = [] := List.eq_nil_of_length_eq_zero (by omega)
        subst hys
        have := run_copy_none (P := C.P) w t u o.type e (some ⟨g, 0, none⟩) none n n 0 0 (Tbl.ok.find ht).1 (by rw [hi]; simp [hs1]) (by simp)
        simpa [Sl.val, Sl.fresh, hro, h3, h4, World.setCells] using this
      | some ad =>
        have := run_copy_cells (P := C.P) w t u o.type e g 0 n n ad r.len r.cap (zs.take n) (Tbl.ok.find ht).1 (by rw [hi]; simp [hs1]) (by rw [hrl, List.length_take]; exact Nat.min_comm _ _)
          (fun j v hj => by rw [add_eq_cell r ad hro]; rw [List.getElem?_take] at hj; split at hj; exact hr.cell j v hj; cases hj) (fun j hj => by
            rw [show w.cell? ⟨g, 0 + j, none⟩ = hcell w.heap ⟨g, 0 + j, none⟩ from rfl, blk_cell hb.at_]
            rw [List.length_take] at hj
            have hj' : j < vs.length := by omega
            simp [hj']) (fun j hj => blk_free hb.at_) (fun v hv => oneCell_of (h1 v (List.mem_of_mem_take hv)))
        simpa [Sl.val, Sl.fresh, hro] using this
    refine .inl ⟨.int .i64 ((zs.take n).length : Int), w.setCells g 0 (zs.take n), ?_, setCells_sim g (zs.take n) 0 w, by rw [setCells_heap]; exact hk⟩
    simp only [List.length_take] at hrun ⊢
    simp [execOp, ho, resolve, invoke, builtin, e1, e2, hrun, Result.andThen, Sem.run_bind, Sem.run, goInt]
end
section
variable {C : Cx} {ops : Array Oper} {l : List Oper} {L : Env} {ds : List Nat} {H : Heap} {Kk : Env → Heap → Prop} {o : Oper}
theorem RegS.copyM [Tbl C.P] {t u e e' g n sz bt bytes dst : Nat} {z z' : Value} {d : TypeDesc} {x y : Operand} {r : Sl} {vs zs : List Value} (hb : Blk H g e' vs) (hn : vs.length = n) (hr : Row H r zs) (h1 : ∀ v ∈ zs, oneCell v = true)
    (k : RegS C ops l ((dst, .int .i64 ((zs.take n).length : Int)) :: L) ds (hsets H g 0 (zs.take n)) Kk)
    (ho : o.op = .call { callee := .builtin .copy, args := #[x, y], argTypes := #[t, u] } := by rfl) (hx : L.ev x = some (Sl.fresh g n).val := by rfl) (hy : L.ev y = some r.val := by rfl)
    (ht : ty C.P t = some ⟨.slice e, sz, bt, z⟩ := by rfl) (he : ty C.P e = some ⟨d, 1, bytes, z'⟩ := by rfl)
    (hds : o.dst = some dst := by rfl) (hg : gd ops o L = some true := by rfl) (hdd : Nat.blt dst C.N = true := by rfl) : RegS C ops (o :: l) L ds H Kk :=
  RegS.ef hg (by rw [hds]; exact hdd) (Ef.copyM ho hx hy ht he hb hn hr h1 (by rw [hds]; exact k))
end
section
variable {C : Cx} {o : Oper} {L : Env} {H : Heap}
/-- []byte(text), in a block of its own. -/
theorem Ef.convStrN [Tbl C.P] {x : Operand} {l : List UInt8} {st dt e sz bt sz' bt' sz'' bt'' : Nat} {z z' z'' : Value} {K : Value → Heap → Prop} (ho : o.op = .convert st dt x) (hx : L.ev x = some (S l))
    (hs : ty C.P st = some ⟨.string, sz, bt, z⟩) (hd : ty C.P dt = some ⟨.slice e, sz', bt', z'⟩) (he : ty C.P e = some ⟨.int .u8, sz'', bt'', z''⟩)
    (hk : ∀ (s' : Sl) (H' : Heap), Bytes H' s' l → Ext H H' → (∀ b, s'.blk = some b → H.size ≤ b ∧ b < H'.size) → K s'.val H') : Ef C o L H K :=
  Ef.of (by rw [ho]; rfl) fun act w ha hw => by
    have h1 := agr_of ha hx (by rw [ho]; simp [Op.operands])
    subst hw
    have hrun := run_bytes_of_string (P := C.P) w st dt e ⟨l.toArray⟩ (Tbl.ok.find hs).1 (Tbl.ok.find hd).1 (Tbl.ok.find he).1
    have hge := grownCap_ge w l.length 0 e
    have hsz : (⟨l.toArray⟩ : ByteArray).size = l.length := by simp [ByteArray.size]
    rw [hsz] at hrun
    refine .inl ⟨_, w.drew.alloc (.cells (bytesRow ⟨l.toArray⟩ (grownCap w l.length 0 e)) e ((bytesRow ⟨l.toArray⟩ (grownCap w l.length 0 e)).size, (bytesRow ⟨l.toArray⟩ (grownCap w l.length 0 e)).size + 1)), ?_, ⟨rfl, rfl, rfl⟩, hk ⟨some ⟨w.heap.size, 0, none⟩, l.length, grownCap w l.length 0 e, fun h => (by cases h), hge⟩ (w.heap.push _) ⟨rfl, fun j hj => ?_⟩ (Ext.push w.heap _) fun b hb => by simp [Sl.blk] at hb; subst hb; simp⟩
    · simp only [execOp, ho, h1, S, Sem.run_bind, hrun, Result.andThen, Sem.run_pure]
      rfl
    · rw [Sl.cell_eq]
      simp only [Option.getD_some]
      rw [add_plain]
      unfold hcell
      simp only [Nat.zero_add]
      rw [Array.getElem?_push, if_pos rfl]
      simp [bytesRow, hj, List.getD_eq_getElem?_getD, B8]
      rw [Array.getElem?_append_left (by simpa using hj)]
      simp [hj]
end
section
variable {C : Cx} {ops : Array Oper} {l : List Oper} {L : Env} {ds : List Nat} {H : Heap} {Kk : Env → Heap → Prop} {o : Oper}
theorem RegS.convStrN [Tbl C.P] {x : Operand} {bs : List UInt8} {st dt e sz bt sz' bt' sz'' bt'' dst : Nat} {z z' z'' : Value} (k : ∀ (s' : Sl) (H' : Heap), Bytes H' s' bs → Ext H H' → (∀ b, s'.blk = some b → H.size ≤ b ∧ b < H'.size) → RegS C ops l ((dst, s'.val) :: L) ds H' Kk)
    (ho : o.op = .convert st dt x := by rfl) (hx : L.ev x = some (S bs) := by rfl)
    (hs : ty C.P st = some ⟨.string, sz, bt, z⟩ := by rfl) (hd : ty C.P dt = some ⟨.slice e, sz', bt', z'⟩ := by rfl) (he : ty C.P e = some ⟨.int .u8, sz'', bt'', z''⟩ := by rfl)
    (hds : o.dst = some dst := by rfl) (hg : gd ops o L = some true := by rfl) (hdd : Nat.blt dst C.N = true := by rfl) : RegS C ops (o :: l) L ds H Kk :=
  RegS.ef hg (by rw [hds]; exact hdd) (Ef.convStrN ho hx hs hd he fun s' H' h1 h2 h3 => by rw [hds]; exact k s' H' h1 h2 h3)
end
end Go.Vc
