/-
  A message's bytes, walked, on; are messages the same?
-/
import Derived.Test.YtaikdcnifijcoaaVMsg
set_option linter.unusedVariables false
set_option linter.unusedSimpArgs false
namespace Go.Proofs.Ytaikdcnifijcoaa
open Go Go.Vc

set_option maxHeartbeats 4000000 in
theorem lay_ok (base kb : Nat) (O : Sl) (out : List UInt8) (bad : Bool) (s : Sl) (l : List UInt8) (H : Heap) (hB : BookAt H base kb O out bad) (hs : Bytes H s l) (hl : l.length ≤ 4000000) (ho : out.length ≤ 100000000) :
    CallsH Try.prog 79 [.pointer (some ⟨kb, 0, none⟩), s.val] H fun v H' => ∃ (O' : Sl), BookAt H' base kb O' (out ++ layB l) (bad || badL l) ∧ Chg (fun b => base ≤ b) H H' := by
  refine CallsH.enter h79 Try.func79 rfl rfl rfl (by decide) fun u => go ?_
  refine RegS.call (bytes_ok s l H hs (by omega)) ?_
  rintro _ A1 ⟨t, rfl, mt, e1⟩
  have hB1 := hB.ext e1
  have lb := layB_le l
  have k1 := hB1.blk
  have rt := mt.bytes
  have z1 := e1.size
  have zA := hB.size
  refine go ?_
  refine RegP.append (f := B8) hB1.own rt (fun _ => rfl) (by omega) ?_ ?_ ?_
  · omega
  · omega
  intro P' A2 o2 c2 b2
  have k2 : Blk A2 kb 110 [O.val, .bool bad] := k1.chg c2 fun h => hB1.ne h
  have hne : P'.blk ≠ some kb := by
    rcases b2 with e | ⟨b', e, hz⟩
    · rw [e]; exact hB1.ne
    · rw [e]; simp only [ne_eq, Option.some.injEq]; have := k1.lt; omega
  refine ⟨.inr proms, ?_⟩
  cases bad <;> refine go ?_
  all_goals
    refine RegP.store (Blk.wr k2 (j := 0) (by simp)) ?_ ?_
    · exact proms
    have k3 : Blk (hset A2 ⟨kb, 0, none⟩ P'.val) kb 110 [P'.val, _] := Blk.set (j := 0) (v := P'.val) k2
    refine go ?_
    refine RegP.store (Blk.wr k3 (j := 1) (by simp)) ?_ ?_
    · exact proms
    refine go ?_
    have kc : ∀ v, Chg (fun b => b = kb) A2 (hset (hset A2 ⟨kb, 0, none⟩ P'.val) ⟨kb, 1, none⟩ v) := fun v => (hset_chg A2 ⟨kb, 0, none⟩ P'.val).trans (hset_chg _ ⟨kb, 1, none⟩ v)
    refine ret0n ⟨P', ⟨by simpa [norm_eq] using Blk.two k2, OwnR.chg o2 (kc _) fun b hb hb' => by subst hb'; exact hne hb, hne, hB.ge⟩, ?_⟩
    exact Chg.trans (Chg.trans (e1.chg _) (c2.mono fun b _ hb => (hB1.own.blk_ge hb).1)) ((kc _).mono fun b _ hb => by subst hb; exact hB.ge)
theorem ints_ok (base kb : Nat) (O : Sl) (out : List UInt8) (bad : Bool) (s : Sl) (l : List Int) (H : Heap) (hB : BookAt H base kb O out bad) (hs : RowF IV 0 H s l) (ha : 0 < s.len → ∀ b, s.blk = some b → b < base) (hl : l.length ≤ 4000000) (ho : out.length ≤ 90000000) :
    CallsH Try.prog 53 [.pointer (some ⟨kb, 0, none⟩), s.val] H fun v H' => ∃ (O' : Sl), BookAt H' base kb O' (out ++ (putB [(l.length : Int)] ++ putB l)) (bad || (badI [(l.length : Int)] || badI l)) ∧ Chg (fun b => base ≤ b) H H' := by
  refine CallsH.enter h53 Try.func53 rfl rfl rfl (by decide) fun u => go ?_
  refine RegS.buildSlice fun H1 o1 e1 z1 => ?_
  have r1 : RowF IV 0 H1 (Sl.fresh H.size 1) [(l.length : Int)] := OwnR.rowF (f := IV) (l := [(l.length : Int)]) o1
  refine go ?_
  refine RegS.call (put_ok base kb O out bad _ _ H1 (hB.ext e1) r1 (hB.new e1 fun b hb => OwnR.blk_ge o1 hb) (by simp) (by omega)) ?_
  rintro _ H2 ⟨O2, hB2, c2⟩
  have cc := (e1.chg (fun b => base ≤ b)).trans c2
  have hs2 := hs.chgN cc fun hp b hb => ⟨hs.lt hp b hb, fun k => by have := ha hp b hb; omega⟩
  have hp1 := putB_le [(l.length : Int)]
  simp only [List.length_singleton] at hp1
  refine go ?_
  refine RegS.call (put_ok base kb O2 _ _ s l H2 hB2 hs2 (hB2.old ha) hl (by rw [List.length_append]; omega)) ?_
  rintro _ H3 ⟨O3, hB3, c3⟩
  refine go ?_
  refine ret0n ⟨O3, ?_, cc.trans c3⟩
  rw [← List.append_assoc, ← Bool.or_assoc]; exact hB3
theorem hdW_take (l : List HdT) (j : Nat) : hdW (l.take j) ≤ hdW l := by
  conv => rhs; rw [← List.take_append_drop j l]
  unfold hdW; rw [List.map_append, List.sum_append]; omega
set_option maxHeartbeats 4000000 in
theorem heads_ok (base kb : Nat) (O : Sl) (out : List UInt8) (bad : Bool) (s : Sl) (l : List HdT) (H : Heap) (hB : BookAt H base kb O out bad) (hs : HRow H s l) (ha : 0 < s.len → ∀ b, s.blk = some b → b < base) (hl : l.length ≤ 4000000) (hw : hdW l ≤ 10000000) (hx : ∀ j, j < l.length → (l.getD j ([], 0)).1.length ≤ 4000000) (ho : out.length ≤ 70000000) :
    CallsH Try.prog 52 [.pointer (some ⟨kb, 0, none⟩), s.val] H fun v H' => ∃ (O' : Sl), BookAt H' base kb O' (out ++ (putB [(l.length : Int)] ++ headsB l)) (bad || (badI [(l.length : Int)] || badH l)) ∧ Chg (fun b => base ≤ b) H H' := by
  have hsl := hs.len
  refine CallsH.enter h52 Try.func52 rfl rfl rfl (by decide) fun u => go ?_
  refine RegS.q (h := Rd.len (s := s) rfl rfl rfl rfl) ?_
  rw [hsl]
  refine go ?_
  refine RegS.buildSlice fun H1 o1 e1 z1 => ?_
  have r1 : RowF IV 0 H1 (Sl.fresh H.size 1) [(l.length : Int)] := OwnR.rowF (f := IV) (l := [(l.length : Int)]) o1
  refine go ?_
  refine RegS.call (put_ok base kb O out bad _ _ H1 (hB.ext e1) r1 (hB.new e1 fun b hb => OwnR.blk_ge o1 hb) (by simp) (by omega)) ?_
  rintro _ H2 ⟨O2, hB2, c2⟩
  have cc := (e1.chg (fun b => base ≤ b)).trans c2
  have hp1 := putB_le [(l.length : Int)]
  simp only [List.length_singleton] at hp1
  refine go ?_
  refine Wp.loop (ι := Nat × Sl) (fun i => [(0, .pointer (some ⟨kb, 0, none⟩)), (1, s.val), (4, I64 i.1)]) (fun i A => i.1 ≤ l.length ∧ BookAt A base kb i.2 (out ++ (putB [(l.length : Int)] ++ headsB (l.take i.1))) (bad || (badI [(l.length : Int)] || badH (l.take i.1))) ∧ HRow A s l ∧ Chg (fun b => base ≤ b) H A) (fun i => l.length - i.1) (0, O2) subs ⟨Nat.zero_le _, by simpa [headsB, badH] using hB2, hs.chgN cc fun hp b hb k => by have := ha hp b hb; omega, cc⟩ ?_
  rintro ⟨j, P⟩ A ⟨hj, hBA, hsA, cA⟩
  have hj : j ≤ l.length := hj
  have hBA : BookAt A base kb P (out ++ (putB [(l.length : Int)] ++ headsB (l.take j))) (bad || (badI [(l.length : Int)] || badH (l.take j))) := hBA
  show Wp _ _ _ [(0, .pointer (some ⟨kb, 0, none⟩)), (1, s.val), (4, I64 j)] _ _
  refine go ?_
  refine RegS.q (h := Rd.len (s := s) rfl rfl rfl rfl) ?_
  rw [hsl]
  refine go ?_
  refine Wp.br (fun hlt => ?_) (fun hlt => ?_)
  case refine_2 =>
    have hlt : ¬ (j : Int) < (l.length : Int) := hlt
    have : j = l.length := by omega
    subst this
    rw [List.take_length] at hBA
    refine go ?_
    exact ret0n ⟨P, hBA, cA⟩
  have hlt : (j : Int) < (l.length : Int) := hlt
  have hx' : l.take (j + 1) = l.take j ++ [l.getD j ([], 0)] := by
    rw [List.take_add_one, List.getElem?_eq_getElem (by omega)]
    simp [List.getD_eq_getElem?_getD, show j < l.length by omega]
  have hxj := hx j (by omega)
  have hh1 := headsB_le (l.take j)
  have hh2 := hdW_take l j
  have hh3 := headsB_le (l.take (j + 1))
  have hh4 := hdW_take l (j + 1)
  rw [hx', headsB_snoc] at hh3
  rw [hx'] at hh4
  simp only [List.length_append] at hh3
  have f0 : hcell A (s.cell (j * 2 + 0)) = some (S (l.getD j ([], 0)).1) := hsA.fst j (by omega)
  refine go ?_
  refine RegS.q (h := Rd.indexAddr rfl rfl rfl rfl rfl (by omega)) ?_
  refine go ?_
  refine RegS.convStr fun s1 A1 m1 y1 => ?_
  refine go ?_
  refine RegS.call (lay_ok base kb P _ _ s1 _ A1 (hBA.ext y1) m1 hxj (by simp only [List.length_append]; omega)) ?_
  rintro _ A2 ⟨P2, hB2', c2'⟩
  have cc2 := (y1.chg (fun b => base ≤ b)).trans c2'
  have hs2 := hsA.chgN cc2 fun hp b hb k => by have := ha hp b hb; omega
  have f1 : hcell A2 (s.cell (j * 2 + 1)) = some (.int .i64 (l.getD j ([], 0)).2) := hs2.snd j (by omega)
  refine go ?_
  refine RegS.q (h := Rd.indexAddr rfl rfl rfl rfl rfl (by omega)) ?_
  refine go ?_
  refine RegS.buildSlice fun A3 o3 y3 w3 => ?_
  have r3 : RowF IV 0 A3 (Sl.fresh A2.size 1) [(l.getD j ([], 0)).2] := OwnR.rowF (f := IV) (l := [(l.getD j ([], 0)).2]) o3
  refine go ?_
  refine RegS.call (put_ok base kb P2 _ _ _ _ A3 (hB2'.ext y3) r3 (hB2'.new y3 fun b hb => OwnR.blk_ge o3 hb) (by simp) (by simp only [List.length_append]; omega)) ?_
  rintro _ A4 ⟨P4, hB4, c4⟩
  have cc4 := (y3.chg (fun b => base ≤ b)).trans c4
  refine go ?_
  refine roundQ_n (j + 1, P4) subs ⟨by simp only; omega, ?_, hs2.chgN cc4 fun hp b hb k => by have := ha hp b hb; omega, (cA.trans cc2).trans cc4⟩ (by simp only; omega)
  show BookAt _ _ _ _ (out ++ (putB [(l.length : Int)] ++ headsB (l.take (j + 1)))) (bad || (badI [(l.length : Int)] || badH (l.take (j + 1))))
  rw [hx', headsB_snoc, badH_snoc]
  simp only [List.append_assoc, Bool.or_assoc] at hB4 ⊢
  exact hB4
end Go.Proofs.Ytaikdcnifijcoaa
