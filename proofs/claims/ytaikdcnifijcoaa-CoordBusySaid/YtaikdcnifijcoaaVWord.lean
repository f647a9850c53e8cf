/-
  The walks of package word: what is written.
-/
import Derived.Test.YtaikdcnifijcoaaVMsg3
import Derived.Test.YtaikdcnifijcoaaVcGo
import Derived.Test.YtaikdcnifijcoaaVDisk
set_option linter.unusedVariables false
set_option linter.unusedSimpArgs false
namespace Go.Proofs.Ytaikdcnifijcoaa
open Go Go.Vc Go.Gf

theorem ofNat_mod (n : Nat) : UInt8.ofNat (n % 256) = UInt8.ofNat n := by
  apply UInt8.toNat_inj.1; simp
theorem intB_four {n : Int} {m : Nat} (h : n = (m : Int) - 2) (hm : m ≤ 2147483647) : intB n = [UInt8.ofNat (m >>> 24), UInt8.ofNat (m >>> 16), UInt8.ofNat (m >>> 8), UInt8.ofNat m] := by
  subst h
  rw [intB, if_neg (by omega), show ((m : Int) - 2 + 2).toNat = m by omega]
  simp only [Nat.shiftRight_eq_div_pow, ofNat_mod]
/-- A writer that grows. -/
structure PenAt (A : Heap) (base wb : Nat) (O : Sl) (out : List UInt8) (bad : Bool) : Prop where
  blk : Blk A wb 150 [O.val, .bool bad]
  own : OwnF B8 A base 5 O out
  ne : O.blk ≠ some wb
  ge : base ≤ wb
section
variable {A A' : Heap} {base wb : Nat} {O s : Sl} {out : List UInt8} {bad : Bool}
theorem PenAt.ext (h : PenAt A base wb O out bad) (e : Ext A A') : PenAt A' base wb O out bad := ⟨h.blk.ext e, h.own.ext e, h.ne, h.ge⟩
theorem PenAt.size (h : PenAt A base wb O out bad) : base ≤ A.size := by have := h.blk.lt; have := h.ge; omega
theorem PenAt.old (h : PenAt A base wb O out bad) (hs : 0 < s.len → ∀ b, s.blk = some b → b < base) : Apart A wb O s := fun hp b hb =>
  ⟨by have := hs hp b hb; have := h.size; omega, by have := hs hp b hb; have := h.ge; omega, fun ho => by have := hs hp b hb; have := (h.own.blk_ge ho).1; omega⟩
theorem PenAt.new (h : PenAt A base wb O out bad) (e : Ext A A') (hs : ∀ b, s.blk = some b → A.size ≤ b ∧ b < A'.size) : Apart A' wb O s := fun _ b hb =>
  ⟨(hs b hb).2, by have := (hs b hb).1; have := h.blk.lt; omega, fun ho => by have := (hs b hb).1; have := (h.own.blk_ge ho).2; omega⟩
end
theorem wnew_ok (H : Heap) : CallsH Try.prog 72 [] H fun v H' => v = ptrD H.size ∧ PenAt H' H.size H.size Sl.nil [] false ∧ Ext H H' := by
  refine CallsH.enter h72 Try.func72 rfl rfl rfl (by decide) fun u => run ?_
  refine RegS.boxA fun H1 x1 z1 b1 => ?_
  refine run ?_
  exact ret1 ⟨rfl, ⟨b1, OwnR.nil _ _ _ _, by simp [Sl.blk, Sl.nil], Nat.le_refl _⟩, x1⟩
/-- What a writer's own steps turn. -/
structure PenTo (H H' : Heap) (wb : Nat) (O O' : Sl) : Prop where
  chg : Chg (fun b => b = wb ∨ O.blk = some b) H H'
  blk : O'.blk = O.blk ∨ ∃ b, O'.blk = some b ∧ H.size ≤ b
theorem penE {H H' : Heap} {wb : Nat} {O : Sl} (e : Ext H H') : PenTo H H' wb O O := ⟨e.chg _, .inl rfl⟩
theorem PenTo.trans {H A B : Heap} {wb : Nat} {O P Q : Sl} (h : PenTo H A wb O P) (k : PenTo A B wb P Q) : PenTo H B wb O Q := by
  refine ⟨⟨Nat.le_trans h.chg.size k.chg.size, fun b hb hn => ?_⟩, ?_⟩
  · refine (k.chg.get b (Nat.lt_of_lt_of_le hb h.chg.size) fun hs => ?_).trans (h.chg.get b hb hn)
    rcases hs with hs | hs
    · exact hn (.inl hs)
    · rcases h.blk with e | ⟨b', e, hz⟩
      · rw [e] at hs; exact hn (.inr hs)
      · rw [e] at hs; simp only [Option.some.injEq] at hs; omega
  · rcases k.blk with e | ⟨b', e, hz⟩
    · rw [e]; exact h.blk
    · exact .inr ⟨b', e, Nat.le_trans h.chg.size hz⟩
theorem PenTo.base {H A : Heap} {base wb : Nat} {O P : Sl} {out : List UInt8} {bad : Bool} (h : PenTo H A wb O P) (p : PenAt H base wb O out bad) : Chg (fun b => base ≤ b) H A := h.chg.mono fun b _ hs => by
  rcases hs with hs | hs
  · subst hs; exact p.ge
  · exact (p.own.blk_ge hs).1
theorem PenTo.apart {H A : Heap} {wb : Nat} {O P s : Sl} (h : PenTo H A wb O P) (ha : Apart H wb O s) : Apart A wb P s := fun hp b hb => by
  have h3 := ha hp b hb
  refine ⟨Nat.lt_of_lt_of_le h3.1 h.chg.size, h3.2.1, fun hx => ?_⟩
  rcases h.blk with e | ⟨b', e, hz⟩
  · rw [e] at hx; exact h3.2.2 hx
  · rw [e] at hx; simp only [Option.some.injEq] at hx; have := h3.1; omega
theorem PenTo.row {β : Type} {f : β → Value} {d : β} {H A : Heap} {wb : Nat} {O P s : Sl} {l : List β} (h : PenTo H A wb O P) (ha : Apart H wb O s) (hs : RowF f d H s l) : RowF f d A s l :=
  hs.chgN h.chg fun hp b hb => ⟨(ha hp b hb).1, fun e => e.elim (ha hp b hb).2.1 (ha hp b hb).2.2⟩
/-- What is appended, and stored: a writer again. -/
theorem PenAt.put {A A' : Heap} {base wb : Nat} {O P : Sl} {out more : List UInt8} {bad : Bool} (h : PenAt A base wb O out bad) (o : OwnF B8 A' base 5 P (out ++ more)) (c : Chg (fun b => O.blk = some b) A A') (hb : P.blk = O.blk ∨ ∃ b, P.blk = some b ∧ A.size ≤ b) :
    PenAt (hset A' ⟨wb, 0, none⟩ P.val) base wb P (out ++ more) bad ∧ PenTo A (hset A' ⟨wb, 0, none⟩ P.val) wb O P ∧ Wr A' ⟨wb, 0, none⟩ ∧ Blk A' wb 150 [O.val, .bool bad] := by
  have k := h.blk.chg c fun e => h.ne e
  have c2 := hset_chg A' ⟨wb, 0, none⟩ P.val
  have hne : P.blk ≠ some wb := by
    rcases hb with e | ⟨b', e, hz⟩
    · rw [e]; exact h.ne
    · rw [e]; simp only [ne_eq, Option.some.injEq]; have := h.blk.lt; omega
  exact ⟨⟨Blk.set (j := 0) (v := P.val) k, OwnR.chg o c2 fun b hb hb' => by simp only at hb'; subst hb'; exact hne hb, hne, h.ge⟩,
    ⟨(c.mono fun b _ hb => .inr hb).trans (c2.mono fun b _ hb => .inl hb), hb⟩, Blk.wr k (by simp), k⟩
theorem PenAt.spoil {A : Heap} {base wb : Nat} {O : Sl} {out : List UInt8} {bad : Bool} (h : PenAt A base wb O out bad) :
    PenAt (hset A ⟨wb, 1, none⟩ (.bool true)) base wb O out true ∧ PenTo A (hset A ⟨wb, 1, none⟩ (.bool true)) wb O O := by
  have c2 := hset_chg A ⟨wb, 1, none⟩ (.bool true)
  exact ⟨⟨Blk.set (j := 1) (v := .bool true) h.blk, OwnR.chg h.own c2 fun b hb hb' => by simp only at hb'; subst hb'; exact h.ne hb, h.ne, h.ge⟩, c2.mono fun b _ hb => .inl hb, .inl rfl⟩
section
variable {base wb : Nat} {O : Sl} {out : List UInt8} {bad : Bool} {H : Heap}
theorem wint_ok (n : Int) (hB : PenAt H base wb O out bad) (ho : out.length ≤ 100000000) : CallsH Try.prog 75 [ptrD wb, IV n] H fun v H' => ∃ O', PenAt H' base wb O' (out ++ intB n) (bad || badI [n]) ∧ PenTo H H' wb O O' := by
  have k := hB.blk
  refine CallsH.enter h75 Try.func75 rfl rfl rfl (by decide) fun u => run ?_
  by_cases hb : n < -2 ∨ 2147483645 < n
  · have e1 : intB n = [] := by rw [intB, if_pos hb]
    have e2 : (bad || badI [n]) = true := by simp [badI, hb]
    obtain ⟨p1, p2⟩ := hB.spoil
    rw [e1, e2, List.append_nil]
    by_cases h1 : n < -2
    all_goals
      refine run ?_
      refine RegS.store (v := .bool true) (Blk.wr k (j := 1) (by simp)) ?_
      refine run ?_
      exact ret0 ⟨O, p1, p2⟩
  · obtain ⟨m, hm⟩ : ∃ m : Nat, n = (m : Int) - 2 := ⟨(n + 2).toNat, by omega⟩
    have e2 : (bad || badI [n]) = bad := by simp only [badI, List.any_cons, List.any_nil, decide_eq_false hb]; simp
    have e1 := intB_four hm (by omega)
    rw [e1, e2]
    subst hm
    refine run ?_
    rw [show (m : Int) - 2 + ((2 : Nat) : Int) = (m : Int) by omega]
    refine run ?_
    refine RegS.buildSlice fun H1 o1 y1 w1 => ?_
    have r1 : Bytes H1 (Sl.fresh H.size 4) [UInt8.ofNat (m >>> 24), UInt8.ofNat (m >>> 16), UInt8.ofNat (m >>> 8), UInt8.ofNat m] := OwnR.rowF (f := B8) (l := [UInt8.ofNat (m >>> 24), UInt8.ofNat (m >>> 16), UInt8.ofNat (m >>> 8), UInt8.ofNat m]) o1
    have hB1 := hB.ext y1
    have z := hB1.size
    refine run ?_
    refine RegS.append (f := B8) hB1.own r1 (fun _ => rfl) (by omega) ?_ ?_ ?_
    · simp only [List.length_cons, List.length_nil]; omega
    · simp only [List.length_cons, List.length_nil]; omega
    intro P H2 o2 c2 b2
    obtain ⟨p1, p2, p3, p4⟩ := hB1.put o2 c2 b2
    refine run ?_
    refine RegS.store (v := P.val) p3 ?_
    refine run ?_
    exact ret0n ⟨P, p1, (penE y1).trans p2⟩
theorem lay_two {n : Nat} : [UInt8.ofNat (n / 256), UInt8.ofNat (n % 256)] = [UInt8.ofNat (n >>> 8), UInt8.ofNat n] := by
  simp only [Nat.shiftRight_eq_div_pow, ofNat_mod]
set_option maxHeartbeats 2000000 in
theorem wbytes_ok (s : Sl) (l : List UInt8) (hB : PenAt H base wb O out bad) (hs : Bytes H s l) (ha : Apart H wb O s) (hl : l.length ≤ 4000000) (ho : out.length ≤ 100000000) : CallsH Try.prog 74 [ptrD wb, s.val] H fun v H' => ∃ O', PenAt H' base wb O' (out ++ layB l) (bad || badL l) ∧ PenTo H H' wb O O' := by
  have k := hB.blk
  refine CallsH.enter h74 Try.func74 rfl rfl rfl (by decide) fun u => run ?_
  refine Wp.br (fun h => ?_) (fun h => ?_)
  · have h : ((65535 : Nat) : Int) < (l.length : Int) := h
    have e1 : layB l = [] := by rw [layB, if_pos (by omega)]
    have e2 : (bad || badL l) = true := by rw [badL, decide_eq_true (by omega)]; simp
    obtain ⟨p1, p2⟩ := hB.spoil
    rw [e1, e2, List.append_nil]
    refine run ?_
    refine RegS.store (v := .bool true) (Blk.wr k (j := 1) (by simp)) ?_
    refine run ?_
    exact ret0 ⟨O, p1, p2⟩
  have h : ¬ ((65535 : Nat) : Int) < (l.length : Int) := h
  have e2 : (bad || badL l) = bad := by rw [badL, decide_eq_false (by omega)]; simp
  rw [e2, layB, if_neg (by omega), lay_two]
  refine run ?_
  refine RegS.buildSlice fun H1 o1 y1 w1 => ?_
  have r1 : Bytes H1 (Sl.fresh H.size 2) [UInt8.ofNat (l.length >>> 8), UInt8.ofNat l.length] := OwnR.rowF (f := B8) (l := [UInt8.ofNat (l.length >>> 8), UInt8.ofNat l.length]) o1
  have hB1 := hB.ext y1
  have hs1 := hs.ext y1
  have z := hB1.size
  have zy := y1.size
  refine run ?_
  refine RegS.append (f := B8) hB1.own r1 (fun _ => rfl) (by omega) ?_ ?_ ?_
  · simp only [List.length_cons, List.length_nil]; omega
  · simp only [List.length_cons, List.length_nil]; omega
  intro P H2 o2 c2 b2
  obtain ⟨p1, p2, p3, p4⟩ := hB1.put o2 c2 b2
  have hto := (penE y1).trans p2
  have hs3 := hto.row ha hs
  have hap := hto.apart ha
  refine run ?_
  refine RegS.store (v := P.val) p3 ?_
  generalize hset H2 ⟨wb, 0, none⟩ P.val = H3 at p1 p2 hto hs3 hap ⊢
  have k3 := p1.blk
  have z3 := p1.size
  refine run ?_
  refine RegS.append (f := B8) p1.own hs3 (fun _ => rfl) (by omega) ?_ ?_ ?_
  · simp only [List.length_append, List.length_cons, List.length_nil]; omega
  · simp only [List.length_append, List.length_cons, List.length_nil]; omega
  intro P' H4 o4 c4 b4
  obtain ⟨q1, q2, q3, q4⟩ := p1.put o4 c4 b4
  refine run ?_
  refine RegS.store (v := P'.val) q3 ?_
  refine run ?_
  rw [List.append_assoc] at q1
  exact ret0n ⟨P', q1, hto.trans q2⟩
theorem out_ok (hB : PenAt H base wb O out bad) (ho : out.length ≤ 200000000) : CallsH Try.prog 77 [ptrD wb] H fun v H' => ∃ s : Sl, v = .tuple #[s.val, .bool (!bad)] ∧ Bytes H' s (if bad = true then [] else out) ∧ Ext H H' ∧ ∀ b, s.blk = some b → H.size ≤ b := by
  have k := hB.blk
  refine CallsH.enter h77 Try.func77 rfl rfl rfl (by decide) fun u => run ?_
  cases bad with
  | true =>
    refine run ?_
    exact ret2 ⟨Sl.nil, rfl, Bytes.nil _, Ext.refl _, fun b hb => by simp [Sl.blk, Sl.nil] at hb⟩
  | false =>
    have r := hB.own.rowF (f := B8) (dd := 0)
    refine run ?_
    refine RegS.call (clone_ok O out H r (by omega)) ?_
    rintro _ H1 ⟨c, rfl, oc, x1⟩
    refine run ?_
    refine RegS.call (clip_ok c out H.size H1 (OwnR.mine oc)) ?_
    rintro _ _ ⟨rfl, rfl⟩
    have hcl := oc.rowF (f := B8) (dd := 0)
    have hle := c.le
    have hh : 0 ≤ c.len ∧ c.len ≤ c.len ∧ c.len ≤ c.cap := by omega
    have hc := hcl.cut hh (by rw [hcl.len]; omega)
    rw [List.drop_zero, hcl.len, List.take_length, ← hcl.len] at hc
    refine run ?_
    exact ret2 ⟨_, rfl, hc, x1, fun b hb => (oc.blk_ge (Sl.cut_blk hb)).1⟩
theorem pints_ok (s : Sl) (l : List Int) (hB : PenAt H base wb O out bad) (hs : RowF IV 0 H s l) (ha : Apart H wb O s) (hl : l.length ≤ 4000000) (ho : out.length ≤ 80000000) : CallsH Try.prog 73 [.agg #[ptrD wb], s.val] H fun v H' => ∃ O', PenAt H' base wb O' (out ++ putB l) (bad || badI l) ∧ PenTo H H' wb O O' := by
  refine CallsH.enter h73 Try.func73 rfl rfl rfl (by decide) fun u => go ?_
  refine RegS.boxA fun H1 x1 z1 b1 => ?_
  have hs1 := hs.ext x1
  refine run ?_
  refine Wp.loop (ι := Nat × Sl) (fun i => [(2, ptrD H.size), (6, s.val), (7, I64 l.length), (8, I64 i.1)]) (fun i A => i.1 ≤ l.length ∧ PenAt A base wb i.2 (out ++ putB (l.take i.1)) (bad || badI (l.take i.1)) ∧ PenTo H1 A wb O i.2 ∧ Blk A H.size 138 [ptrD wb]) (fun i => l.length - i.1) (0, O) subs ⟨Nat.zero_le _, by simpa [putB, badI] using hB.ext x1, penE (Ext.refl _), b1⟩ ?_
  rintro ⟨i, P⟩ A ⟨hi, pA, tA, bA⟩
  have hi : i ≤ l.length := hi
  have pA : PenAt A base wb P (out ++ putB (l.take i)) (bad || badI (l.take i)) := pA
  have sA := tA.row (ha.ext x1) hs1
  have hpl := putB_le (l.take i)
  have htk : (l.take i).length = i := by rw [List.length_take]; omega
  refine run ?_
  refine Wp.br (fun hlt => ?_) (fun hlt => ?_)
  case refine_2 =>
    have hlt : ¬ (i : Int) < (l.length : Int) := hlt
    have : i = l.length := by omega
    subst this
    rw [List.take_length] at pA
    refine run ?_
    exact ret0n ⟨P, pA, (penE x1).trans tA⟩
  have hlt : (i : Int) < (l.length : Int) := hlt
  have hx : l.take (i + 1) = l.take i ++ [l.getD i 0] := by
    rw [List.take_add_one, List.getElem?_eq_getElem (by omega)]
    simp [List.getD_eq_getElem?_getD, show i < l.length by omega]
  refine run ?_
  refine RegS.call (wint_ok (l.getD i 0) pA (by rw [List.length_append]; omega)) ?_
  rintro _ A1 ⟨P1, pA1, tA1⟩
  have hne : ∀ b, (b = wb ∨ P.blk = some b) → b ≠ H.size := fun b hb e => by
    subst e
    rcases hb with hb | hb
    · have := hB.blk.lt; omega
    · rcases tA.blk with e' | ⟨b', e', hz⟩
      · rw [e'] at hb; have := (hB.own.blk_ge hb).2; omega
      · rw [e'] at hb; simp only [Option.some.injEq] at hb; omega
  have bA1 := bA.chg tA1.chg fun e => hne _ e rfl
  refine run ?_
  refine roundQ_n (i + 1, P1) subs ⟨by simp only; omega, ?_, tA.trans tA1, bA1⟩ (by simp only; omega)
  show PenAt A1 base wb P1 (out ++ putB (l.take (i + 1))) (bad || badI (l.take (i + 1)))
  rw [hx, putB_snoc, badI_snoc, ← List.append_assoc, ← Bool.or_assoc]
  exact pA1
end
end Go.Proofs.Ytaikdcnifijcoaa
