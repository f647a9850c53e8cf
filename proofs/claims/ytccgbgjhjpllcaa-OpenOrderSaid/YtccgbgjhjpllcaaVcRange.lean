/-
  The calculus, part 6: ranges over functions.
-/
import Derived.Test.YtccgbgjhjpllcaaVcAuto
set_option linter.unusedVariables false
set_option linter.unusedSimpArgs false
namespace Go.Vc

/-- From block B on, what there was is what it was. -/
structure Above (B : Nat) (H H' : Heap) : Prop where
  size : H.size ≤ H'.size
  get : ∀ b, B ≤ b → b < H.size → H'[b]? = H[b]?
theorem Above.refl (B : Nat) (H : Heap) : Above B H H := ⟨Nat.le_refl _, fun _ _ _ => rfl⟩
theorem Above.trans {B : Nat} {A D E : Heap} (h : Above B A D) (k : Above B D E) : Above B A E :=
  ⟨Nat.le_trans h.size k.size, fun b hB hb => (k.get b hB (Nat.lt_of_lt_of_le hb h.size)).trans (h.get b hB hb)⟩
theorem Above.mono {B B' : Nat} {H H' : Heap} (h : Above B H H') (hb : B ≤ B') : Above B' H H' := ⟨h.size, fun b hB hb' => h.get b (Nat.le_trans hb hB) hb'⟩
theorem Ext.above {H H' : Heap} (h : Ext H H') (B : Nat) : Above B H H' := ⟨h.size, fun b _ hb => h.get b hb⟩

/-- yield, called: one round of loop l. -/
structure YieldH (P : Program) (l : Nat) (args : List Value) (H : Heap) (R : Value → Heap → Prop) : Prop where
  run : ∀ w, w.heap = H → ∃ fn tmps assign body, (Instr.yield l args.toArray).run P w = .ok (.round l fn tmps assign body) w ∧
    RoundIn Fence.wide 0 P l fn tmps assign body w (fun e w' => ∃ v, e = .returned v ∧ Sim w w' ∧ R v w'.heap)

theorem yield_op {C : Cx} {o : Oper} {L : Env} {H : Heap} {R K : Value → Heap → Prop} {f : Operand} {xs : List Operand} {ts : Array TypeId} {l : Nat} {vs : List Value}
    (ho : o.op = .call { callee := .value f, args := xs.toArray, argTypes := ts }) (hf : L.ev f = some (.func (.yield l) #[] #[])) (hxs : evs L xs = some vs)
    (h : YieldH C.P l vs H R) (hk : ∀ v H', R v H' → K v H') : Ef C o L H K := by
  refine ⟨by rw [ho]; rfl, fun a w s hw ha next Q hn => ?_⟩
  have hfa : a.eval f = .func (.yield l) #[] #[] := ha f (by rw [ho]; simp [Op.operands, Call.operands]) _ hf
  have hva : xs.map a.eval = vs := evs_map hxs fun x hx u hu => ha x (by rw [ho]; simp [Op.operands, Call.operands, hx]) u hu
  obtain ⟨fn, tmps, assign, body, hy, hr⟩ := h.run w hw
  have hrun : (execOp a.eval o).run C.P w = .ok (.round l fn tmps assign body) w := by
    unfold execOp
    simp only [ho]
    simp only [resolve, hfa, Deferred.ofValue]
    simp only [Sem.run_bind, Sem.run_pure, Result.andThen]
    simp only [invoke]
    rw [List.map_toArray, hva]
    simpa using hy
  rw [hrun]
  refine ⟨fun e => (by cases e), ?_⟩
  refine RoundIn.mono (show RoundIn (FW C.ρ) 0 C.P l fn tmps assign body w _ from hr) ?_
  rintro e w' ⟨v, rfl, s', r⟩
  exact hn v w' ⟨s'.os.trans s.os, s'.tape.trans s.tape, s'.output.trans s.output⟩ (hk _ _ r)

theorem RegS.yieldC {C : Cx} {ops : Array Oper} {lst : List Oper} {L : Env} {ds : List Nat} {H : Heap} {K : Env → Heap → Prop} {o : Oper} {d : Nat} {R : Value → Heap → Prop} {f : Operand} {xs : List Operand} {ts : Array TypeId} {l : Nat} {vs : List Value} (h : YieldH C.P l vs H R)
    (hk : ∀ v H', R v H' → RegS C ops lst ((d, v) :: L) ds H' K) (hds : o.dst = some d := by rfl)
    (hop : o.op = .call { callee := .value f, args := xs.toArray, argTypes := ts } := by rfl) (hf : L.ev f = some (.func (.yield l) #[] #[]) := by rfl) (hxs : evs L xs = some vs := by rfl)
    (hg : gd ops o L = some true := by rfl) (hd : Nat.blt d C.N = true := by rfl) : RegS C ops (o :: lst) L ds H K :=
  RegS.ef hg (by rw [hds]; exact hd) (yield_op hop hf hxs h (by rw [hds]; exact hk))

/-- An iterator's word: n rounds at most, the k-th with such arguments; 'pre': what must hold between two rounds. -/
def Iter (P : Program) (g : FuncId) (cap : List Value) (n : Nat) (arg : Nat → Heap → List Value → Prop) (pre : Heap → Prop) : Prop :=
  ∀ (l : Nat) (J : Nat → Heap → Prop) (Jx : Heap → Prop) (H : Heap),
    (∀ k H, J k H → pre H) → (∀ k H H', J k H → Ext H H' → J k H') → (∀ H H', Jx H → Ext H H' → Jx H') →
    (∀ k H' vs, k < n → J k H' → arg k H' vs → YieldH P l vs H' fun v H'' => Above H.size H' H'' ∧ ((v = .bool true ∧ J (k + 1) H'') ∨ (v = .bool false ∧ Jx H''))) →
    J 0 H → CallsH P g (.func (.yield l) #[] #[] :: cap) H fun _ H' => J n H' ∨ Jx H'

/-- Behind a round's body. -/
def bodyQ (B : Nat) (I : Heap → Prop) (Ix : Exit → Heap → Prop) (H : Heap) : QPost
  | .normal, _, ds, H' => ds = [] ∧ Above B H H' ∧ I H'
  | .ret, _, ds, H' => ds = [] ∧ Above B H H' ∧ Ix .ret H'
  | .exit id, _, ds, H' => ds = [] ∧ Above B H H' ∧ Ix (.exit id) H'
  | _, _, _, _ => False
theorem bodyQ_n {B : Nat} {I : Heap → Prop} {Ix : Exit → Heap → Prop} {H H' : Heap} {L : Env} (ha : Above B H H') (h : I H') : bodyQ B I Ix H .normal L [] H' := ⟨rfl, ha, h⟩
theorem bodyQ_r {B : Nat} {I : Heap → Prop} {Ix : Exit → Heap → Prop} {H H' : Heap} {L : Env} (ha : Above B H H') (h : Ix .ret H') : bodyQ B I Ix H .ret L [] H' := ⟨rfl, ha, h⟩
theorem bodyQ_e {B : Nat} {I : Heap → Prop} {Ix : Exit → Heap → Prop} {H H' : Heap} {L : Env} {id : Nat} (ha : Above B H H') (h : Ix (.exit id) H') : bodyQ B I Ix H (.exit id) L [] H' := ⟨rfl, ha, h⟩

def zipEnv : List Nat → List Value → Env → Env
  | p :: ps, v :: vs, L => zipEnv ps vs ((p, v) :: L)
  | _, _, L => L
theorem knows_zip {N : Nat} {ds : List Nat} : ∀ {ps : List Nat} {vs : List Value} {L : Env} {tmps : Array Value} {dd : List Deferred}, (∀ p ∈ ps, p < N) → Knows N L ds { tmps := tmps, defers := dd } →
    Knows N (zipEnv ps vs L) ds { tmps := (ps.zip vs).foldl (fun t (p, v) => t.setIfInBounds p v) tmps, defers := dd }
  | [], _, _, _, _, _, k => by simpa [zipEnv] using k
  | _ :: _, [], _, _, _, _, k => by simpa [zipEnv] using k
  | p :: ps, v :: vs, L, tmps, dd, hp, k => by
    simp only [zipEnv, List.zip_cons_cons, List.foldl_cons]
    exact knows_zip (fun q hq => hp q (List.mem_cons_of_mem _ hq)) (k.put p v (hp p List.mem_cons_self))
def allLt (N : Nat) : List Nat → Bool
  | [] => true
  | p :: r => Nat.blt p N && allLt N r
theorem allLt_spec {N : Nat} : ∀ {l : List Nat}, allLt N l = true → ∀ p ∈ l, p < N
  | [], _, p, hp => by cases hp
  | q :: r, h, p, hp => by
    simp only [allLt, Bool.and_eq_true] at h
    rcases List.mem_cons.1 hp with rfl | hp
    · exact Nat.le_of_ble_eq_true h.1
    · exact allLt_spec h.2 p hp

/-- A range over a function, outside of any other: the frame that the rounds begin with is the one at the loop's head. -/
theorem Wp.range {C : Cx} {f : Operand} {ps : List Nat} {assign body : Code} {Q : QPost} {L : Env} {ds : List Nat} {H : Heap} {g : FuncId} {cap : List Value} {n : Nat} {arg : Nat → Heap → List Value → Prop} {pre : Heap → Prop}
    (aenv : Nat → List Value → Env) (I : Nat → Heap → Prop) (Ix : Exit → Heap → Prop)
    (hρ : C.ρ = none) (hf : L.ev f = some (.func (.func g) #[] cap.toArray)) (hps : allLt C.N ps = true)
    (it : Iter C.P g cap n arg pre) (hpre : ∀ k H, I k H → pre H) (hext : ∀ k H H', I k H → Ext H H' → I k H') (hextx : ∀ e H H', Ix e H → Ext H H' → Ix e H')
    (hst : ∀ k H' l r r', H.size ≤ l → H'[l]? = some (.loop r) → I k H' → I k (H'.setIfInBounds l (.loop r')))
    (hstx : ∀ e H' l r r', H.size ≤ l → H'[l]? = some (.loop r) → Ix e H' → Ix e (H'.setIfInBounds l (.loop r')))
    (hsta : ∀ k vs H' l r r', H.size ≤ l → H'[l]? = some (.loop r) → arg k H' vs → arg k (H'.setIfInBounds l (.loop r')) vs)
    (hlen : ∀ k H vs, arg k H vs → vs.length = ps.length) (h0 : I 0 H)
    (hassign : ∀ u l k H' vs, H.size ≤ l → k < n → I k H' → arg k H' vs → Wp { C with u := u, ρ := some l } assign (fun e L' ds' H1 => e = .normal ∧ ds' = [] ∧ H1 = H' ∧ Sub (aenv k vs) L') (zipEnv ps vs L) [] H')
    (hbody : ∀ u l k H' vs, H.size ≤ l → k < n → I k H' → arg k H' vs → Wp { C with u := u, ρ := some l } body (bodyQ H.size (I (k + 1)) Ix H') (aenv k vs) [] H')
    (hdone : ∀ H' D, H.size ≤ D → I n H' → H'[D]? = some (.deferred (some [])) → Q .normal L (D :: ds) H')
    (hstop : ∀ e H' D, H.size ≤ D → Ix e H' → H'[D]? = some (.deferred (some [])) → Q e L (D :: ds) H') : Wp C (.rangeFunc f ps.toArray assign body) Q L ds H := by
  obtain ⟨P, u, N, ρ, X, pl⟩ := C
  simp only at hρ
  subst hρ
  refine ⟨fun a w s hw k => wpIn_rangeFunc fun fn hfn => ?_⟩
  simp only at hps it
  obtain ⟨rec, hrec⟩ : ∃ rec : LoopState → Option Code → Loop, rec = fun st pe => { state := st, pending := pe, fn, tmps := a.tmps, params := ps.toArray, assign, body, defers := w.heap.size } := ⟨_, rfl⟩
  obtain ⟨W1, hW1⟩ : ∃ W1, (w.alloc (.deferred (some []))).alloc (.loop (rec .ready none)) = W1 := ⟨_, rfl⟩
  have hheap : W1.heap = (H.push (.deferred (some []))).push (.loop (rec .ready none)) := by rw [← hW1, ← hw]; rfl
  have hL1 : W1.heap[H.size + 1]? = some (.loop (rec .ready none)) := by rw [hheap, Array.getElem?_push, if_pos (by simp)]
  have hK1 : W1.heap[H.size]? = some (.deferred (some [])) := by rw [hheap, Array.getElem?_push, if_neg (by simp), Array.getElem?_push, if_pos rfl]
  have hE1 : Ext H W1.heap := by rw [hheap]; exact (Ext.push _ _).trans (Ext.push _ _)
  have hsz1 : W1.heap.size = H.size + 2 := by rw [hheap]; simp
  have hsim1 : Sim u W1 := by rw [← hW1]; exact ⟨s.os, s.tape, s.output⟩
  have hev : a.eval f = .func (.func g) #[] cap.toArray := k.ev hf
  have hit := it (H.size + 1)
    (fun k H' => I k H' ∧ H'[H.size + 1]? = some (.loop (rec .ready none)) ∧ H'[H.size]? = some (.deferred (some [])))
    (fun H' => ∃ e c, ((e = .ret ∧ c = .ret) ∨ ∃ id, e = .exit id ∧ c = .exit id) ∧ Ix e H' ∧ H'[H.size + 1]? = some (.loop (rec .done (some c))) ∧ H'[H.size]? = some (.deferred (some [])))
    W1.heap (fun k H' h => hpre k H' h.1)
    (fun k A B h e => ⟨hext _ _ _ h.1 e, e.blk h.2.1, e.blk h.2.2⟩)
    (fun A B h e => by obtain ⟨x, c, hx, h1, h2, h3⟩ := h; exact ⟨x, c, hx, hextx _ _ _ h1 e, e.blk h2, e.blk h3⟩)
    ?_ ⟨hext _ _ _ h0 hE1, hL1, hK1⟩
  · refine ⟨w.heap.size + 1, [{ target := .collected w.heap.size, args := #[] }], W1, { target := .fn (.func g) cap.toArray, args := #[.func (.yield (w.heap.size + 1)) #[] #[]] }, W1, g,
      (.func (.yield (w.heap.size + 1)) #[] #[] :: cap).toArray, W1, ?_, ?_, ?_, ?_, fun e => (by cases e), ?_⟩
    · rw [← hW1, hrec]; exact run_enterLoop_outer _ _ _ _ _
    · simp only [resolve, hev]
      simp [Deferred.ofValue, Act.eval, Sem.run]
    · intro f' _; trivial
    · simp only [invoke]
      rw [show (#[Value.func (.yield (w.heap.size + 1)) #[] #[]] ++ cap.toArray : Array Value) = (.func (.yield (w.heap.size + 1)) #[] #[] :: cap).toArray from by apply Array.ext'; simp]
      exact hit.can _ _
    · rw [hw]
      refine callsIn_wide (n := 0 - 1) |>.2 ((hit.run W1 rfl).mono ?_)
      rintro e w' ⟨v, rfl, s', hp⟩
      have hs' : Sim u w' := ⟨s'.os.trans hsim1.os, s'.tape.trans hsim1.tape, s'.output.trans hsim1.output⟩
      have hkn : Knows N L (H.size :: ds) { a with defers := [{ target := .collected H.size, args := #[] }] ++ a.defers } :=
        ⟨k.size, by show _ :: a.defers = _; rw [k.defers]; rfl, k.get⟩
      rcases hp with ⟨hi, hl, hk⟩ | ⟨x, c, hx, hi, hl, hk⟩
      · refine ⟨none, w'.putObj (H.size + 1) (.loop { rec .ready none with state := .exhausted }), ?_, ?_⟩
        · have := run_endLoop (P := P) hl (by rw [hrec]; simp)
          rw [this, hrec]
        · refine ⟨⟨hs'.os, hs'.tape, hs'.output⟩, L, H.size :: ds, hkn, hdone _ _ (Nat.le_refl _) (hst _ _ _ _ _ (by omega) hl hi) ?_⟩
          show (w'.heap.setIfInBounds (H.size + 1) _)[H.size]? = _
          rw [Array.getElem?_setIfInBounds_ne (by omega)]; exact hk
      · refine ⟨some c, w'.putObj (H.size + 1) (.loop { rec .done (some c) with state := .exhausted }), ?_, ?_⟩
        · have := run_endLoop (P := P) hl (by rw [hrec]; simp)
          rw [this, hrec]
        · have hq := hstop x (w'.heap.setIfInBounds (H.size + 1) (.loop { rec .done (some c) with state := .exhausted })) H.size (Nat.le_refl _) (hstx _ _ _ _ _ (by omega) hl hi)
            (by rw [Array.getElem?_setIfInBounds_ne (by omega)]; exact hk)
          rcases hx with ⟨rfl, rfl⟩ | ⟨id, rfl, rfl⟩
          · exact wpIn_ret ⟨⟨hs'.os, hs'.tape, hs'.output⟩, L, H.size :: ds, hkn, hq⟩
          · exact wpIn_exit ⟨⟨hs'.os, hs'.tape, hs'.output⟩, L, H.size :: ds, hkn, hq⟩
  · intro j H' vs hj ⟨hi, hl, hk⟩ harg
    refine ⟨fun w1 hw1 => ?_⟩
    subst hw1
    have hlt : H.size + 1 < w1.heap.size := (Array.getElem?_eq_some_iff.1 hl).1
    have hsl : (vs.toArray).size = ps.toArray.size := by simpa using hlen _ _ _ harg
    have hy := run_yield (P := P) (args := vs.toArray) hl (by rw [hrec]; exact hsl)
    rw [hrec] at hy
    refine ⟨fn, _, assign, body, hy, roundIn_of_wpIn (F := Fence.wide) trivial ?_⟩
    have hzip : ((ps.toArray.zip vs.toArray).foldl (fun tmps (t, a) => tmps.setIfInBounds t a) a.tmps) = ((ps.zip vs).foldl (fun t (p, v) => t.setIfInBounds p v) a.tmps) := by
      rw [List.zip_toArray, List.foldl_toArray]
    simp only [hzip]
    have hkz : Knows N (zipEnv ps vs L) [] { tmps := (ps.zip vs).foldl (fun t (p, v) => t.setIfInBounds p v) a.tmps, defers := [] } :=
      knows_zip (allLt_spec hps) ⟨k.size, rfl, k.get⟩
    have ha := (hassign w1 (H.size + 1) j w1.heap vs (by omega) hj hi harg).out { tmps := (ps.zip vs).foldl (fun t (p, v) => t.setIfInBounds p v) a.tmps, defers := [] } w1 (Sim.refl w1) rfl hkz
    refine wpIn_mono ha ?_
    rintro e a1 w2 ⟨hs2, L', ds', hk', rfl, rfl, hh, hsub⟩
    simp only [Exit.then]
    have hl2 : w2.heap[H.size + 1]? = some (.loop (rec .ready none)) := by rw [hh]; exact hl
    have hk2 : w2.heap[H.size]? = some (.deferred (some [])) := by rw [hh]; exact hk
    refine ⟨_, run_beginRound hl2 (by rw [hrec]), ?_⟩
    have hi3 : I j (w2.putObj (H.size + 1) (.loop { rec .ready none with state := .busy })).heap := hst _ _ _ _ _ (by omega) hl2 (by rw [hh]; exact hi)
    have harg3 : arg j (w2.putObj (H.size + 1) (.loop { rec .ready none with state := .busy })).heap vs := hsta _ _ _ _ _ _ (by omega) hl2 (by rw [hh]; exact harg)
    have hl3 : (w2.putObj (H.size + 1) (.loop { rec .ready none with state := .busy })).heap[H.size + 1]? = some (.loop { rec .ready none with state := .busy }) := World.putObj_heap_same (Array.getElem?_eq_some_iff.1 hl2).1
    have hk3 : (w2.putObj (H.size + 1) (.loop { rec .ready none with state := .busy })).heap[H.size]? = some (.deferred (some [])) := (World.putObj_heap_other (by omega)).trans hk2
    have hb := (hbody w1 (H.size + 1) j _ vs (by omega) hj hi3 harg3).out a1 (w2.putObj (H.size + 1) (.loop { rec .ready none with state := .busy })) ⟨hs2.os, hs2.tape, hs2.output⟩ rfl (hk'.weaken hsub.mem)
    refine wpIn_mono hb ?_
    have hab : ∀ H4 : Heap, Above H.size (w2.putObj (H.size + 1) (.loop { rec .ready none with state := .busy })).heap H4 → ∀ o, Above (H.size + 2) w1.heap (H4.setIfInBounds (H.size + 1) o) := fun H4 hA o => by
      refine ⟨by simpa [World.putObj, hh] using hA.size, fun b hb1 hb2 => ?_⟩
      rw [Array.getElem?_setIfInBounds_ne (by omega), hA.get b (by omega) (by simpa [World.putObj, hh] using hb2)]
      show (w2.heap.setIfInBounds (H.size + 1) _)[b]? = _
      rw [Array.getElem?_setIfInBounds_ne (by omega), hh]
    have hfin : ∀ (w4 : World), Above H.size (w2.putObj (H.size + 1) (.loop { rec .ready none with state := .busy })).heap w4.heap →
        w4.heap[H.size + 1]? = some (.loop { rec .ready none with state := .busy }) ∧ w4.heap[H.size]? = some (.deferred (some [])) := fun w4 hA =>
      ⟨(hA.get _ (by omega) (Array.getElem?_eq_some_iff.1 hl3).1).trans hl3, (hA.get _ (by omega) (Array.getElem?_eq_some_iff.1 hk3).1).trans hk3⟩
    rintro e a4 w4 ⟨hs4, L4, ds4, hk4, hq⟩
    cases e with
    | normal =>
      obtain ⟨rfl, hA, hI⟩ := hq
      obtain ⟨hl4, hd4⟩ := hfin w4 hA
      have hend := run_endRound (P := P) none hl4
      refine ⟨_, _, hend, _, rfl, ⟨hs4.os, hs4.tape, hs4.output⟩, by rw [hsz1]; exact hab _ hA _, .inl ⟨rfl, hst _ _ _ _ _ (by omega) hl4 hI, ?_, ?_⟩⟩
      · have := World.putObj_heap_same (w := w4) (r := H.size + 1) (o := .loop { rec .ready none with state := .ready, pending := none }) (Array.getElem?_eq_some_iff.1 hl4).1
        rw [hrec] at this ⊢
        exact this
      · exact (World.putObj_heap_other (by omega)).trans hd4
    | ret =>
      obtain ⟨rfl, hA, hI⟩ := hq
      obtain ⟨hl4, hd4⟩ := hfin w4 hA
      have hend := run_endRound (P := P) (some .ret) hl4
      refine ⟨_, _, hend, _, rfl, ⟨hs4.os, hs4.tape, hs4.output⟩, by rw [hsz1]; exact hab _ hA _, .inr ⟨rfl, .ret, .ret, .inl ⟨rfl, rfl⟩, hstx _ _ _ _ _ (by omega) hl4 hI, ?_, ?_⟩⟩
      · have := World.putObj_heap_same (w := w4) (r := H.size + 1) (o := .loop { rec .ready none with state := .done, pending := some .ret }) (Array.getElem?_eq_some_iff.1 hl4).1
        rw [hrec] at this ⊢
        exact this
      · exact (World.putObj_heap_other (by omega)).trans hd4
    | exit id =>
      obtain ⟨rfl, hA, hI⟩ := hq
      obtain ⟨hl4, hd4⟩ := hfin w4 hA
      have hend := run_endRound (P := P) (some (.exit id)) hl4
      refine ⟨_, _, hend, _, rfl, ⟨hs4.os, hs4.tape, hs4.output⟩, by rw [hsz1]; exact hab _ hA _, .inr ⟨rfl, .exit id, .exit id, .inr ⟨id, rfl, rfl⟩, hstx _ _ _ _ _ (by omega) hl4 hI, ?_, ?_⟩⟩
      · have := World.putObj_heap_same (w := w4) (r := H.size + 1) (o := .loop { rec .ready none with state := .done, pending := some (.exit id) }) (Array.getElem?_eq_some_iff.1 hl4).1
        rw [hrec] at this ⊢
        exact this
      · exact (World.putObj_heap_other (by omega)).trans hd4
    | _ => exact hq.elim
end Go.Vc
