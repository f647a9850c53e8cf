/-
  The calculus, part 6: ranges over functions.
-/
import Derived.Test.YtaikdcnifijcoaaGreatQ03
import Derived.Laws.AppendOwn
import Derived.Laws.AppendOwnNone
import Derived.Laws.MakeOwn
import Derived.Laws.OwnMore
import Derived.Maps.AppendAt
set_option linter.unusedVariables false
set_option linter.unusedSimpArgs false
namespace Go.Vc
/-- From block B on, what there was is what it was. -/
structure Above (B : Nat) (H H' : Heap) : Prop where
  size : H.size ≤ H'.size
  get : ∀ b, B ≤ b → b < H.size → H'[b]? = H[b]?
theorem Above.trans {B : Nat} {A D E : Heap} (h : Above B A D) (k : Above B D E) : Above B A E :=
  ⟨Nat.le_trans h.size k.size, fun b hB hb => (k.get b hB (Nat.lt_of_lt_of_le hb h.size)).trans (h.get b hB hb)⟩
/-- yield, called: one round of loop l. -/
structure YieldH (P : Program) (l : Nat) (args : List Value) (H : Heap) (R : Value → Heap → Prop) : Prop where
  run : ∀ w, w.heap = H → ∃ fn tmps assign body, (Instr.yield l args.toArray).run P w = .ok (.round l fn tmps assign body) w ∧
    RoundIn Fence.wide 0 P l fn tmps assign body w (fun e w' => ∃ v, e = .returned v ∧ Sim w w' ∧ R v w'.heap)
theorem yield_op {C : Cx} {o : Oper} {L : Env} {H : Heap} {R K : Value → Heap → Prop} {f : Operand} {xs : List Operand} {ts : Array TypeId} {l : Nat} {vs : List Value}
    (ho : o.op = .call { callee := .value f, args := xs.toArray, argTypes := ts }) (hf : L.ev f = some (.func (.yield l) #[] #[])) (hxs : evs L xs = some vs)
    (h : YieldH C.P l vs H R) (hk : ∀ v H', R v H' → K v H') : Ef C o L H K := by
  refine ⟨by rw [ho]; rfl, fun a w s hw ha next Q hn => ?_⟩
  have hfa : a.eval f = .func (.yield l) #[] #[] := ha f (by rw [ho]; simp [Op.operands, Call.operands]) _ hf
  have hva : xs.map a.eval = vs := evs_map hxs fun x hx u hu => ha x (by rw [ho]; simp [Op.operands, Call.operands, hx]) u hu
  obtain ⟨fn, tmps, assign, body, hy, hr⟩ := h.run w hw
  have hrun : (execOp a.eval o).run C.P w = .ok (.round l fn tmps assign body) w := by
    unfold execOp
    simp only [ho]
    simp only [resolve, hfa, Deferred.ofValue]
    simp only [Sem.run_bind, Sem.run_pure, Result.andThen]
    simp only [invoke]
    rw [List.map_toArray, hva]
    simpa using hy
  rw [hrun]
  refine ⟨fun e => (by cases e), ?_⟩
  refine RoundIn.mono (show RoundIn (FW C.ρ) 0 C.P l fn tmps assign body w _ from hr) ?_
  rintro e w' ⟨v, rfl, s', r⟩
  exact hn v w' ⟨s'.os.trans s.os, s'.tape.trans s.tape, s'.output.trans s.output⟩ (hk _ _ r)
theorem RegS.yieldC {C : Cx} {ops : Array Oper} {lst : List Oper} {L : Env} {ds : List Nat} {H : Heap} {K : Env → Heap → Prop} {o : Oper} {d : Nat} {R : Value → Heap → Prop} {f : Operand} {xs : List Operand} {ts : Array TypeId} {l : Nat} {vs : List Value} (h : YieldH C.P l vs H R)
    (hk : ∀ v H', R v H' → RegS C ops lst ((d, v) :: L) ds H' K) (hds : o.dst = some d := by rfl)
    (hop : o.op = .call { callee := .value f, args := xs.toArray, argTypes := ts } := by rfl) (hf : L.ev f = some (.func (.yield l) #[] #[]) := by rfl) (hxs : evs L xs = some vs := by rfl)
    (hg : gd ops o L = some true := by rfl) (hd : Nat.blt d C.N = true := by rfl) : RegS C ops (o :: lst) L ds H K :=
  RegS.ef hg (by rw [hds]; exact hd) (yield_op hop hf hxs h (by rw [hds]; exact hk))
/-- An iterator's word: n rounds at most, the k-th with such arguments; 'pre': what must hold between two rounds. -/
def Iter (P : Program) (g : FuncId) (cap : List Value) (n : Nat) (arg : Nat → Heap → List Value → Prop) (pre : Heap → Prop) : Prop :=
  ∀ (l : Nat) (J : Nat → Heap → Prop) (Jx : Heap → Prop) (H : Heap),
    (∀ k H, J k H → pre H) → (∀ k H H', J k H → Ext H H' → J k H') → (∀ H H', Jx H → Ext H H' → Jx H') →
    (∀ k H' vs, k < n → J k H' → arg k H' vs → YieldH P l vs H' fun v H'' => Above H.size H' H'' ∧ ((v = .bool true ∧ J (k + 1) H'') ∨ (v = .bool false ∧ Jx H''))) →
    J 0 H → CallsH P g (.func (.yield l) #[] #[] :: cap) H fun _ H' => J n H' ∨ Jx H'
/-- Behind a round's body. -/
def bodyQ (B : Nat) (I : Heap → Prop) (Ix : Exit → Heap → Prop) (H : Heap) : QPost
  | .normal, _, ds, H' => ds = [] ∧ Above B H H' ∧ I H'
  | .ret, _, ds, H' => ds = [] ∧ Above B H H' ∧ Ix .ret H'
  | .exit id, _, ds, H' => ds = [] ∧ Above B H H' ∧ Ix (.exit id) H'
  | _, _, _, _ => False
theorem bodyQ_n {B : Nat} {I : Heap → Prop} {Ix : Exit → Heap → Prop} {H H' : Heap} {L : Env} (ha : Above B H H') (h : I H') : bodyQ B I Ix H .normal L [] H' := ⟨rfl, ha, h⟩
def zipEnv : List Nat → List Value → Env → Env
  | p :: ps, v :: vs, L => zipEnv ps vs ((p, v) :: L)
  | _, _, L => L
theorem knows_zip {N : Nat} {ds : List Nat} : ∀ {ps : List Nat} {vs : List Value} {L : Env} {tmps : Array Value} {dd : List Deferred}, (∀ p ∈ ps, p < N) → Knows N L ds { tmps := tmps, defers := dd } →
    Knows N (zipEnv ps vs L) ds { tmps := (ps.zip vs).foldl (fun t (p, v) => t.setIfInBounds p v) tmps, defers := dd }
  | [], _, _, _, _, _, k => by simpa [zipEnv] using k
  | _ :: _, [], _, _, _, _, k => by simpa [zipEnv] using k
  | p :: ps, v :: vs, L, tmps, dd, hp, k => by
    simp only [zipEnv, List.zip_cons_cons, List.foldl_cons]
    exact knows_zip (fun q hq => hp q (List.mem_cons_of_mem _ hq)) (k.put p v (hp p List.mem_cons_self))
def allLt (N : Nat) : List Nat → Bool
  | [] => true
  | p :: r => Nat.blt p N && allLt N r
theorem allLt_spec {N : Nat} : ∀ {l : List Nat}, allLt N l = true → ∀ p ∈ l, p < N
  | [], _, p, hp => by cases hp
  | q :: r, h, p, hp => by
    simp only [allLt, Bool.and_eq_true] at h
    rcases List.mem_cons.1 hp with rfl | hp
    · exact Nat.le_of_ble_eq_true h.1
    · exact allLt_spec h.2 p hp
/-- A range over a function, outside of any other: the frame that the rounds begin with is the one at the loop's head. -/
theorem Wp.range {C : Cx} {f : Operand} {ps : List Nat} {assign body : Code} {Q : QPost} {L : Env} {ds : List Nat} {H : Heap} {g : FuncId} {cap : List Value} {n : Nat} {arg : Nat → Heap → List Value → Prop} {pre : Heap → Prop}
    (aenv : Nat → List Value → Env) (I : Nat → Heap → Prop) (Ix : Exit → Heap → Prop)
    (hρ : C.ρ = none) (hf : L.ev f = some (.func (.func g) #[] cap.toArray)) (hps : allLt C.N ps = true)
    (it : Iter C.P g cap n arg pre) (hpre : ∀ k H, I k H → pre H) (hext : ∀ k H H', I k H → Ext H H' → I k H') (hextx : ∀ e H H', Ix e H → Ext H H' → Ix e H')
    (hst : ∀ k H' l r r', H.size ≤ l → H'[l]? = some (.loop r) → I k H' → I k (H'.setIfInBounds l (.loop r')))
    (hstx : ∀ e H' l r r', H.size ≤ l → H'[l]? = some (.loop r) → Ix e H' → Ix e (H'.setIfInBounds l (.loop r')))
    (hsta : ∀ k vs H' l r r', H.size ≤ l → H'[l]? = some (.loop r) → arg k H' vs → arg k (H'.setIfInBounds l (.loop r')) vs)
    (hlen : ∀ k H vs, arg k H vs → vs.length = ps.length) (h0 : I 0 H)
    (hassign : ∀ u l k H' vs, H.size ≤ l → k < n → I k H' → arg k H' vs → Wp { C with u := u, ρ := some l } assign (fun e L' ds' H1 => e = .normal ∧ ds' = [] ∧ H1 = H' ∧ Sub (aenv k vs) L') (zipEnv ps vs L) [] H')
    (hbody : ∀ u l k H' vs, H.size ≤ l → k < n → I k H' → arg k H' vs → Wp { C with u := u, ρ := some l } body (bodyQ H.size (I (k + 1)) Ix H') (aenv k vs) [] H')
    (hdone : ∀ H' D, H.size ≤ D → I n H' → H'[D]? = some (.deferred (some [])) → Q .normal L (D :: ds) H')
    (hstop : ∀ e H' D, H.size ≤ D → Ix e H' → H'[D]? = some (.deferred (some [])) → Q e L (D :: ds) H') : Wp C (.rangeFunc f ps.toArray assign body) Q L ds H := by
  obtain ⟨P, u, N, ρ, X, pl⟩ := C
  simp only at hρ
  subst hρ
  refine ⟨fun a w s hw k => wpIn_rangeFunc fun fn hfn => ?_⟩
  simp only at hps it
  obtain ⟨rec, hrec⟩ : ∃ rec : LoopState → Option Code → Loop, rec = fun st pe => { state := st, pending := pe, fn, tmps := a.tmps, params := ps.toArray, assign, body, defers := w.heap.size } := ⟨_, rfl⟩
  obtain ⟨W1, hW1⟩ : ∃ W1, (w.alloc (.deferred (some []))).alloc (.loop (rec .ready none)) = W1 := ⟨_, rfl⟩
  have hheap : W1.heap = (H.push (.deferred (some []))).push (.loop (rec .ready none)) := by rw [← hW1, ← hw]; rfl
  have hL1 : W1.heap[H.size + 1]? = some (.loop (rec .ready none)) := by rw [hheap, Array.getElem?_push, if_pos (by simp)]
  have hK1 : W1.heap[H.size]? = some (.deferred (some [])) := by rw [hheap, Array.getElem?_push, if_neg (by simp), Array.getElem?_push, if_pos rfl]
  have hE1 : Ext H W1.heap := by rw [hheap]; exact (Ext.push _ _).trans (Ext.push _ _)
  have hsz1 : W1.heap.size = H.size + 2 := by rw [hheap]; simp
  have hsim1 : Sim u W1 := by rw [← hW1]; exact ⟨s.os, s.tape, s.output⟩
  have hev : a.eval f = .func (.func g) #[] cap.toArray := k.ev hf
  have hit := it (H.size + 1)
    (fun k H' => I k H' ∧ H'[H.size + 1]? = some (.loop (rec .ready none)) ∧ H'[H.size]? = some (.deferred (some [])))
    (fun H' => ∃ e c, ((e = .ret ∧ c = .ret) ∨ ∃ id, e = .exit id ∧ c = .exit id) ∧ Ix e H' ∧ H'[H.size + 1]? = some (.loop (rec .done (some c))) ∧ H'[H.size]? = some (.deferred (some [])))
    W1.heap (fun k H' h => hpre k H' h.1)
    (fun k A B h e => ⟨hext _ _ _ h.1 e, e.blk h.2.1, e.blk h.2.2⟩)
    (fun A B h e => by obtain ⟨x, c, hx, h1, h2, h3⟩ := h; exact ⟨x, c, hx, hextx _ _ _ h1 e, e.blk h2, e.blk h3⟩)
    ?_ ⟨hext _ _ _ h0 hE1, hL1, hK1⟩
  · refine ⟨w.heap.size + 1, [{ target := .collected w.heap.size, args := #[] }], W1, { target := .fn (.func g) cap.toArray, args := #[.func (.yield (w.heap.size + 1)) #[] #[]] }, W1, g,
      (.func (.yield (w.heap.size + 1)) #[] #[] :: cap).toArray, W1, ?_, ?_, ?_, ?_, fun e => (by cases e), ?_⟩
    · rw [← hW1, hrec]; exact run_enterLoop_outer _ _ _ _ _
    · simp only [resolve, hev]
      simp [Deferred.ofValue, Act.eval, Sem.run]
    · intro f' _; trivial
    · simp only [invoke]
      rw [show (#[Value.func (.yield (w.heap.size + 1)) #[] #[]] ++ cap.toArray : Array Value) = (.func (.yield (w.heap.size + 1)) #[] #[] :: cap).toArray from by apply Array.ext'; simp]
      exact hit.can _ _
    · rw [hw]
      refine callsIn_wide (n := 0 - 1) |>.2 ((hit.run W1 rfl).mono ?_)
      rintro e w' ⟨v, rfl, s', hp⟩
      have hs' : Sim u w' := ⟨s'.os.trans hsim1.os, s'.tape.trans hsim1.tape, s'.output.trans hsim1.output⟩
      have hkn : Knows N L (H.size :: ds) { a with defers := [{ target := .collected H.size, args := #[] }] ++ a.defers } :=
        ⟨k.size, by show _ :: a.defers = _; rw [k.defers]; rfl, k.get⟩
      rcases hp with ⟨hi, hl, hk⟩ | ⟨x, c, hx, hi, hl, hk⟩
      · refine ⟨none, w'.putObj (H.size + 1) (.loop { rec .ready none with state := .exhausted }), ?_, ?_⟩
        · have := run_endLoop (P := P) hl (by rw [hrec]; simp)
          rw [this, hrec]
        · refine ⟨⟨hs'.os, hs'.tape, hs'.output⟩, L, H.size :: ds, hkn, hdone _ _ (Nat.le_refl _) (hst _ _ _ _ _ (by omega) hl hi) ?_⟩
          show (w'.heap.setIfInBounds (H.size + 1) _)[H.size]? = _
          rw [Array.getElem?_setIfInBounds_ne (by omega)]; exact hk
      · refine ⟨some c, w'.putObj (H.size + 1) (.loop { rec .done (some c) with state := .exhausted }), ?_, ?_⟩
        · have := run_endLoop (P := P) hl (by rw [hrec]; simp)
          rw [this, hrec]
        · have hq := hstop x (w'.heap.setIfInBounds (H.size + 1) (.loop { rec .done (some c) with state := .exhausted })) H.size (Nat.le_refl _) (hstx _ _ _ _ _ (by omega) hl hi)
            (by rw [Array.getElem?_setIfInBounds_ne (by omega)]; exact hk)
          rcases hx with ⟨rfl, rfl⟩ | ⟨id, rfl, rfl⟩
          · exact wpIn_ret ⟨⟨hs'.os, hs'.tape, hs'.output⟩, L, H.size :: ds, hkn, hq⟩
          · exact wpIn_exit ⟨⟨hs'.os, hs'.tape, hs'.output⟩, L, H.size :: ds, hkn, hq⟩
  · intro j H' vs hj ⟨hi, hl, hk⟩ harg
    refine ⟨fun w1 hw1 => ?_⟩
    subst hw1
    have hlt : H.size + 1 < w1.heap.size := (Array.getElem?_eq_some_iff.1 hl).1
    have hsl : (vs.toArray).size = ps.toArray.size := by simpa using hlen _ _ _ harg
    have hy := run_yield (P := P) (args := vs.toArray) hl (by rw [hrec]; exact hsl)
    rw [hrec] at hy
    refine ⟨fn, _, assign, body, hy, roundIn_of_wpIn (F := Fence.wide) trivial ?_⟩
    have hzip : ((ps.toArray.zip vs.toArray).foldl (fun tmps (t, a) => tmps.setIfInBounds t a) a.tmps) = ((ps.zip vs).foldl (fun t (p, v) => t.setIfInBounds p v) a.tmps) := by
      rw [List.zip_toArray, List.foldl_toArray]
    simp only [hzip]
    have hkz : Knows N (zipEnv ps vs L) [] { tmps := (ps.zip vs).foldl (fun t (p, v) => t.setIfInBounds p v) a.tmps, defers := [] } :=
      knows_zip (allLt_spec hps) ⟨k.size, rfl, k.get⟩
    have ha := (hassign w1 (H.size + 1) j w1.heap vs (by omega) hj hi harg).out { tmps := (ps.zip vs).foldl (fun t (p, v) => t.setIfInBounds p v) a.tmps, defers := [] } w1 (Sim.refl w1) rfl hkz
    refine wpIn_mono ha ?_
    rintro e a1 w2 ⟨hs2, L', ds', hk', rfl, rfl, hh, hsub⟩
    simp only [Exit.then]
    have hl2 : w2.heap[H.size + 1]? = some (.loop (rec .ready none)) := by rw [hh]; exact hl
    have hk2 : w2.heap[H.size]? = some (.deferred (some [])) := by rw [hh]; exact hk
    refine ⟨_, run_beginRound hl2 (by rw [hrec]), ?_⟩
    have hi3 : I j (w2.putObj (H.size + 1) (.loop { rec .ready none with state := .busy })).heap := hst _ _ _ _ _ (by omega) hl2 (by rw [hh]; exact hi)
    have harg3 : arg j (w2.putObj (H.size + 1) (.loop { rec .ready none with state := .busy })).heap vs := hsta _ _ _ _ _ _ (by omega) hl2 (by rw [hh]; exact harg)
    have hl3 : (w2.putObj (H.size + 1) (.loop { rec .ready none with state := .busy })).heap[H.size + 1]? = some (.loop { rec .ready none with state := .busy }) := World.putObj_heap_same (Array.getElem?_eq_some_iff.1 hl2).1
    have hk3 : (w2.putObj (H.size + 1) (.loop { rec .ready none with state := .busy })).heap[H.size]? = some (.deferred (some [])) := (World.putObj_heap_other (by omega)).trans hk2
    have hb := (hbody w1 (H.size + 1) j _ vs (by omega) hj hi3 harg3).out a1 (w2.putObj (H.size + 1) (.loop { rec .ready none with state := .busy })) ⟨hs2.os, hs2.tape, hs2.output⟩ rfl (hk'.weaken hsub.mem)
    refine wpIn_mono hb ?_
    have hab : ∀ H4 : Heap, Above H.size (w2.putObj (H.size + 1) (.loop { rec .ready none with state := .busy })).heap H4 → ∀ o, Above (H.size + 2) w1.heap (H4.setIfInBounds (H.size + 1) o) := fun H4 hA o => by
      refine ⟨by simpa [World.putObj, hh] using hA.size, fun b hb1 hb2 => ?_⟩
      rw [Array.getElem?_setIfInBounds_ne (by omega), hA.get b (by omega) (by simpa [World.putObj, hh] using hb2)]
      show (w2.heap.setIfInBounds (H.size + 1) _)[b]? = _
      rw [Array.getElem?_setIfInBounds_ne (by omega), hh]
    have hfin : ∀ (w4 : World), Above H.size (w2.putObj (H.size + 1) (.loop { rec .ready none with state := .busy })).heap w4.heap →
        w4.heap[H.size + 1]? = some (.loop { rec .ready none with state := .busy }) ∧ w4.heap[H.size]? = some (.deferred (some [])) := fun w4 hA =>
      ⟨(hA.get _ (by omega) (Array.getElem?_eq_some_iff.1 hl3).1).trans hl3, (hA.get _ (by omega) (Array.getElem?_eq_some_iff.1 hk3).1).trans hk3⟩
    rintro e a4 w4 ⟨hs4, L4, ds4, hk4, hq⟩
    cases e with
    | normal =>
      obtain ⟨rfl, hA, hI⟩ := hq
      obtain ⟨hl4, hd4⟩ := hfin w4 hA
      have hend := run_endRound (P := P) none hl4
      refine ⟨_, _, hend, _, rfl, ⟨hs4.os, hs4.tape, hs4.output⟩, by rw [hsz1]; exact hab _ hA _, .inl ⟨rfl, hst _ _ _ _ _ (by omega) hl4 hI, ?_, ?_⟩⟩
      · have := World.putObj_heap_same (w := w4) (r := H.size + 1) (o := .loop { rec .ready none with state := .ready, pending := none }) (Array.getElem?_eq_some_iff.1 hl4).1
        rw [hrec] at this ⊢
        exact this
      · exact (World.putObj_heap_other (by omega)).trans hd4
    | ret =>
      obtain ⟨rfl, hA, hI⟩ := hq
      obtain ⟨hl4, hd4⟩ := hfin w4 hA
      have hend := run_endRound (P := P) (some .ret) hl4
      refine ⟨_, _, hend, _, rfl, ⟨hs4.os, hs4.tape, hs4.output⟩, by rw [hsz1]; exact hab _ hA _, .inr ⟨rfl, .ret, .ret, .inl ⟨rfl, rfl⟩, hstx _ _ _ _ _ (by omega) hl4 hI, ?_, ?_⟩⟩
      · have := World.putObj_heap_same (w := w4) (r := H.size + 1) (o := .loop { rec .ready none with state := .done, pending := some .ret }) (Array.getElem?_eq_some_iff.1 hl4).1
        rw [hrec] at this ⊢
        exact this
      · exact (World.putObj_heap_other (by omega)).trans hd4
    | exit id =>
      obtain ⟨rfl, hA, hI⟩ := hq
      obtain ⟨hl4, hd4⟩ := hfin w4 hA
      have hend := run_endRound (P := P) (some (.exit id)) hl4
      refine ⟨_, _, hend, _, rfl, ⟨hs4.os, hs4.tape, hs4.output⟩, by rw [hsz1]; exact hab _ hA _, .inr ⟨rfl, .exit id, .exit id, .inr ⟨id, rfl, rfl⟩, hstx _ _ _ _ _ (by omega) hl4 hI, ?_, ?_⟩⟩
      · have := World.putObj_heap_same (w := w4) (r := H.size + 1) (o := .loop { rec .ready none with state := .done, pending := some (.exit id) }) (Array.getElem?_eq_some_iff.1 hl4).1
        rw [hrec] at this ⊢
        exact this
      · exact (World.putObj_heap_other (by omega)).trans hd4
    | _ => exact hq.elim
end Go.Vc
set_option linter.unusedVariables false
set_option linter.unusedSimpArgs false
namespace Go.Vc
/-! ### A store into one cell -/
def hset (H : Heap) (a : Addr) (v : Value) : Heap :=
  H.modify a.block fun
    | .cells c e fz => .cells (if a.spot.isSome then c else c.setIfInBounds a.off v) e fz
    | o => o
def hfrozen (H : Heap) (a : Addr) : Bool :=
  match H[a.block]? with
  | some (.cells _ _ (lo, hi)) => lo ≤ a.off && a.off < hi
  | _ => false
theorem setCell_heap (w : World) (a : Addr) (v : Value) : (w.setCell a v).heap = hset w.heap a v := rfl
theorem hset_size (H : Heap) (a : Addr) (v : Value) : (hset H a v).size = H.size := by simp [hset]
theorem hset_other {H : Heap} {a : Addr} {v : Value} {b : Nat} (h : b ≠ a.block) : (hset H a v)[b]? = H[b]? := by
  unfold hset
  rw [Array.getElem?_modify, if_neg (fun e => h e.symm)]
theorem hset_same {H : Heap} {a : Addr} {v : Value} {c : Array Value} {e : TypeId} {fz : Nat × Nat} (h : H[a.block]? = some (.cells c e fz)) (hs : a.spot = none) :
    (hset H a v)[a.block]? = some (.cells (c.setIfInBounds a.off v) e fz) := by
  unfold hset
  rw [Array.getElem?_modify, if_pos rfl, h]
  simp [hs]
/-- Blocks of a set may have turned, no other one. -/
structure Chg (S : Nat → Prop) (H H' : Heap) : Prop where
  size : H.size ≤ H'.size
  get : ∀ b, b < H.size → ¬S b → H'[b]? = H[b]?
theorem Chg.refl (S : Nat → Prop) (H : Heap) : Chg S H H := ⟨Nat.le_refl _, fun _ _ _ => rfl⟩
theorem Chg.trans {S : Nat → Prop} {A B D : Heap} (h : Chg S A B) (k : Chg S B D) : Chg S A D :=
  ⟨Nat.le_trans h.size k.size, fun b hb hs => (k.get b (Nat.lt_of_lt_of_le hb h.size) hs).trans (h.get b hb hs)⟩
theorem Chg.mono {S S' : Nat → Prop} {H H' : Heap} (h : Chg S H H') (hs : ∀ b, b < H.size → S b → S' b) : Chg S' H H' := ⟨h.size, fun b hb hn => h.get b hb fun k => hn (hs b hb k)⟩
theorem Ext.chg {H H' : Heap} (h : Ext H H') (S : Nat → Prop) : Chg S H H' := ⟨h.size, fun b hb _ => h.get b hb⟩
/-- Behind 'H0 has grown to H' comes a turn of blocks that H0 had not. -/
theorem Ext.then {H0 H H' : Heap} {S : Nat → Prop} (e : Ext H0 H) (c : Chg S H H') (hs : ∀ b, S b → H0.size ≤ b) : Ext H0 H' :=
  ⟨Nat.le_trans e.size c.size, fun b hb => (c.get b (Nat.lt_of_lt_of_le hb e.size) fun k => by have := hs b k; omega).trans (e.get b hb)⟩
theorem Chg.cell {S : Nat → Prop} {H H' : Heap} (h : Chg S H H') {a : Addr} {v : Value} (hc : hcell H a = some v) (hs : ¬S a.block) : hcell H' a = some v :=
  (hcell_block (h.get _ (hcell_lt hc) hs)).trans hc
theorem hset_chg (H : Heap) (a : Addr) (v : Value) : Chg (· = a.block) H (hset H a v) := ⟨by rw [hset_size]; exact Nat.le_refl _, fun b _ hs => hset_other hs⟩
theorem hcell_hset_same {H : Heap} {a : Addr} {v u : Value} (h : hcell H a = some u) : hcell (hset H a v) a = some v := by
  unfold hcell at h
  split at h
  · rename_i c e fz hb
    split at h
    · cases h
    · rename_i hs
      have hs' : a.spot = none := by cases hh : a.spot <;> simp_all
      unfold hcell
      rw [hset_same hb hs']
      have := (Array.getElem?_eq_some_iff.1 h).1
      simp [hs', this]
  · cases h
theorem hcell_hset_ne {H : Heap} {a a' : Addr} {v u : Value} (h : hcell H a' = some u) (hne : a'.block ≠ a.block ∨ a'.off ≠ a.off) : hcell (hset H a v) a' = some u := by
  by_cases hb : a'.block = a.block
  · have ho : a'.off ≠ a.off := by rcases hne with h' | h'; exact absurd hb h'; exact h'
    unfold hcell at h ⊢
    rw [hb] at h ⊢
    split at h
    · rename_i c e fz hblk
      split at h
      · cases h
      · rename_i hs
        unfold hset
        rw [Array.getElem?_modify, if_pos rfl, hblk]
        simp only [Option.map_some]
        rw [if_neg hs]
        split
        · exact h
        · rw [Array.getElem?_setIfInBounds_ne (fun e => ho e.symm)]; exact h
    · cases h
  · rw [hcell_block (hset_other hb)]; exact h
section
variable {C : Cx} {o : Oper} {L : Env} {H : Heap}
theorem Ef.of {K : Value → Heap → Prop} (hd : Op.isDefer o.op = false)
    (h : ∀ a w, Agr o L a → w.heap = H → (∃ v w', (execOp a.eval o).run C.P w = .ok (.value v) w' ∧ Sim w w' ∧ K v w'.heap) ∨ (∃ w', (execOp a.eval o).run C.P w = .ok .skip w' ∧ Sim w w' ∧ K undef w'.heap)) : Ef C o L H K :=
  ⟨hd, fun a w s hw ha next Q hn => by
    rcases h a w ha hw with ⟨v, w', hr, hs, hk⟩ | ⟨w', hr, hs, hk⟩
    · rw [hr]; exact hn v w' ⟨hs.os.trans s.os, hs.tape.trans s.tape, hs.output.trans s.output⟩ hk
    · rw [hr]; exact hn undef w' ⟨hs.os.trans s.os, hs.tape.trans s.tape, hs.output.trans s.output⟩ hk⟩
theorem Ef.alloc [Tbl C.P] {t sz bt : Nat} {d : TypeDesc} {z : Value} {K : Value → Heap → Prop} (ho : o.op = .alloc t) (ht : ty C.P t = some ⟨d, sz, bt, z⟩)
    (hk : K (.pointer (some ⟨H.size, 0, none⟩)) (H.push (.cells z.cells t))) : Ef C o L H K :=
  Ef.of (by rw [ho]; rfl) fun a w ha hw => by
    subst hw
    refine .inl ⟨.pointer (some ⟨w.heap.size, 0, none⟩), { w with heap := w.heap.push (.cells z.cells t) }, ?_, ⟨rfl, rfl, rfl⟩, hk⟩
    simp [execOp, ho, Instr.alloc, Sem.run_bind, ty.zero ht, Result.andThen, newVar, newRow, newObj, Sem.run]
theorem Ef.box {t : Nat} {x : Operand} {v : Value} {K : Value → Heap → Prop} (ho : o.op = .box t x) (hx : L.ev x = some v)
    (hk : K (.pointer (some ⟨H.size, 0, none⟩)) (H.push (.cells v.cells t))) : Ef C o L H K :=
  Ef.of (by rw [ho]; rfl) fun a w ha hw => by
    have h1 := agr_of ha hx (by rw [ho]; simp [Op.operands])
    subst hw
    refine .inl ⟨.pointer (some ⟨w.heap.size, 0, none⟩), { w with heap := w.heap.push (.cells v.cells t) }, ?_, ⟨rfl, rfl, rfl⟩, hk⟩
    simp [execOp, ho, h1, Instr.box, Sem.run_bind, Result.andThen, newVar, newRow, newObj, Sem.run]
def oneCell : Value → Bool
  | .agg _ | .tuple _ => false
  | _ => true
theorem oneCell_cells {v : Value} (h : oneCell v = true) : v.cells = #[v] := by cases v <;> simp_all [oneCell, Value.cells]
theorem run_store1 {P : Program} {w : World} {a : Addr} {v u : Value} (h1 : oneCell v = true) (hc : hcell w.heap a = some u) (hf : hfrozen w.heap a = false) : (Go.store a v).run P w = .ok () (w.setCell a v) := by
  have hc' : w.cell? a = some u := hc
  have hf' : w.frozen? a = false := hf
  cases v <;> simp_all [oneCell, Go.store, Sem.run]
theorem add_zero (a : Addr) : a.add 0 = a := rfl
theorem Ef.store [Tbl C.P] {t bt : Nat} {x y : Operand} {a : Addr} {d : TypeDesc} {z v u : Value} {K : Value → Heap → Prop} (ho : o.op = .store t x y) (hx : L.ev x = some (.pointer (some a))) (hy : L.ev y = some v)
    (ht : ty C.P t = some ⟨d, 1, bt, z⟩) (h1 : oneCell v = true) (hc : hcell H a = some u) (hf : hfrozen H a = false) (hk : K undef (hset H a v)) : Ef C o L H K :=
  Ef.of (by rw [ho]; rfl) fun act w ha hw => by
    have e1 := agr_of ha hx (by rw [ho]; simp [Op.operands])
    have e2 := agr_of ha hy (by rw [ho]; simp [Op.operands])
    subst hw
    refine .inr ⟨w.setCell a v, ?_, ⟨rfl, rfl, rfl⟩, hk⟩
    simp [execOp, ho, e1, e2, Instr.storeAt, Instr.sureAddr, storeVar, Sem.run_bind, ty.sizeOf ht, Result.andThen, oneCell_cells h1, storeCells, add_zero, run_store1 h1 hc hf, Sem.run]
end
/-! ### A row of one's own -/
/-- The slice, nil or a row of block 'base' or later that nobody else writes, holds these cells. -/
def OwnR (H : Heap) (base : Nat) (e : TypeId) (size : Nat) (s : Sl) (xs : List Value) : Prop :=
  xs.length = s.len * size ∧ (s.ao = none ∨ ∃ g cur, s.ao = some ⟨g, 0, none⟩ ∧ base ≤ g ∧ H[g]? = some (.cells cur e (0, 0)) ∧ s.len ≤ s.cap ∧ s.cap ≤ maxLen ∧ cur.size = s.cap * size ∧ cur.toList.take (s.len * size) = xs)
theorem OwnR.to {w : World} {base : Nat} {e : TypeId} {size : Nat} {s : Sl} {xs : List Value} (h : OwnR w.heap base e size s xs) : w.ownsRow base e size s.val s.len xs := by
  obtain ⟨h1, h2⟩ := h
  refine ⟨h1, ?_⟩
  rcases h2 with h2 | ⟨g, cur, ha, hb, hh, hl, hm, hc, ht⟩
  · obtain ⟨h3, h4⟩ := s.ok h2
    exact .inl ⟨by simp [Sl.val, h2, h3, h4], h3⟩
  · exact .inr ⟨g, s.cap, cur, by simp [Sl.val, ha], hb, hh, hl, hm, hc, ht⟩
theorem OwnR.of {w : World} {base : Nat} {e : TypeId} {size n : Nat} {v : Value} {xs : List Value} (h : w.ownsRow base e size v n xs) : ∃ s : Sl, v = s.val ∧ s.len = n ∧ OwnR w.heap base e size s xs ∧ s.blk = v.ownBlock := by
  obtain ⟨h1, h2⟩ := h
  rcases h2 with ⟨rfl, rfl⟩ | ⟨g, cap, cur, rfl, hb, hh, hl, hm, hc, ht⟩
  · exact ⟨Sl.nil, rfl, rfl, ⟨h1, .inl rfl⟩, rfl⟩
  · exact ⟨⟨some ⟨g, 0, none⟩, n, cap, fun h => (by cases h), hl⟩, rfl, rfl, ⟨h1, .inr ⟨g, cur, rfl, hb, hh, hl, hm, hc, ht⟩⟩, rfl⟩
theorem OwnR.nil (H : Heap) (base : Nat) (e : TypeId) (size : Nat) : OwnR H base e size Sl.nil [] := ⟨by simp [Sl.nil], .inl rfl⟩
theorem OwnR.chg {H H' : Heap} {S : Nat → Prop} {base : Nat} {e : TypeId} {size : Nat} {s : Sl} {xs : List Value} (h : OwnR H base e size s xs) (c : Chg S H H') (hs : ∀ b, s.blk = some b → ¬S b) : OwnR H' base e size s xs := by
  obtain ⟨h1, h2⟩ := h
  refine ⟨h1, h2.imp id ?_⟩
  rintro ⟨g, cur, ha, hb, hh, r⟩
  exact ⟨g, cur, ha, hb, by rw [c.get g (Array.getElem?_eq_some_iff.1 hh).1 (hs g (by simp [Sl.blk, ha]))]; exact hh, r⟩
theorem OwnR.ext {H H' : Heap} {base : Nat} {e : TypeId} {size : Nat} {s : Sl} {xs : List Value} (h : OwnR H base e size s xs) (c : Ext H H') : OwnR H' base e size s xs := h.chg (c.chg fun _ => False) fun _ _ k => k
theorem OwnR.blk_ge {H : Heap} {base : Nat} {e : TypeId} {size : Nat} {s : Sl} {xs : List Value} (h : OwnR H base e size s xs) {b : Nat} (hb : s.blk = some b) : base ≤ b ∧ b < H.size := by
  rcases h.2 with h2 | ⟨g, cur, ha, hg, hh, _⟩
  · simp [Sl.blk, h2] at hb
  · simp [Sl.blk, ha] at hb; subst hb; exact ⟨hg, (Array.getElem?_eq_some_iff.1 hh).1⟩
theorem OwnR.row {H : Heap} {base : Nat} {e : TypeId} {s : Sl} {xs : List Value} (h : OwnR H base e 1 s xs) : Row H s xs := by
  obtain ⟨h1, h2⟩ := h
  refine ⟨by omega, fun j v hj => ?_⟩
  have hlt : j < xs.length := (List.getElem?_eq_some_iff.1 hj).1
  rcases h2 with h2 | ⟨g, cur, ha, hg, hh, hl, hm, hc, ht⟩
  · have := (s.ok h2).1; omega
  · rw [Sl.cell_eq, ha]
    simp only [Option.getD_some]
    rw [add_plain]
    unfold hcell
    simp only [hh]
    have : cur.toList[j]? = some v := by
      rw [← ht] at hj
      rw [List.getElem?_take] at hj
      split at hj
      · exact hj
      · cases hj
    simpa using this
theorem OwnR.frozen {H : Heap} {base : Nat} {e : TypeId} {s : Sl} {xs : List Value} (h : OwnR H base e 1 s xs) {j : Nat} (hj : j < xs.length) : hfrozen H (s.cell j) = false := by
  rcases h.2 with h2 | ⟨g, cur, ha, hg, hh, _⟩
  · have := (s.ok h2).1; have := h.1; omega
  · rw [Sl.cell_eq, ha]
    simp only [Option.getD_some]
    rw [add_plain]
    unfold hfrozen
    simp [hh]
theorem OwnR.set {H : Heap} {base : Nat} {e : TypeId} {s : Sl} {xs : List Value} (h : OwnR H base e 1 s xs) {j : Nat} (hj : j < xs.length) (v : Value) :
    OwnR (hset H (s.cell j) v) base e 1 s (xs.set j v) ∧ Chg (fun b => s.blk = some b) H (hset H (s.cell j) v) := by
  rcases h.2 with h2 | ⟨g, cur, ha, hg, hh, hl, hm, hc, ht⟩
  · have := (s.ok h2).1; have := h.1; omega
  · have hcell : s.cell j = ⟨g, j, none⟩ := by
      rw [Sl.cell_eq, ha]; simp only [Option.getD_some]; rw [add_plain]; simp
    rw [hcell]
    refine ⟨⟨by simp [h.1], .inr ⟨g, cur.setIfInBounds j v, ha, hg, hset_same (a := ⟨g, j, none⟩) hh rfl, hl, hm, by simp [hc], ?_⟩⟩, ?_⟩
    · rw [Array.toList_setIfInBounds, List.take_set, ht]
    · exact (hset_chg H ⟨g, j, none⟩ v).mono fun b _ hb => by simp at hb; simp [Sl.blk, ha, hb]
section
variable {C : Cx} {o : Oper} {L : Env} {H : Heap}
theorem add_eq_cell (s : Sl) (a : Addr) (h : s.ao = some a) (j : Nat) : a.add j = s.cell j := by rw [Sl.cell_eq, h]; rfl
/-- append of a slice of any make to a row of one's own. -/
theorem Ef.append [Tbl C.P] {t e sz bt bytes : Nat} {z z' : Value} {d : TypeDesc} {x y : Operand} {s r : Sl} {xs ys : List Value} {base : Nat} {K : Value → Heap → Prop}
    (ho : o.op = .call { callee := .builtin .append, args := #[x, y], argTypes := #[t, t] }) (hx : L.ev x = some s.val) (hy : L.ev y = some r.val)
    (ht : ty C.P t = some ⟨.slice e, sz, bt, z⟩) (he : ty C.P e = some ⟨d, 1, bytes, z'⟩) (hz : oneCell z' = true)
    (hown : OwnR H base e 1 s xs) (hrow : Row H r ys) (h1 : ∀ v ∈ ys, oneCell v = true) (hbase : base ≤ H.size)
    (hl : (xs.length + ys.length) * bytes ≤ 140737488355328) (hl2 : xs.length + ys.length ≤ 9223372036854775807)
    (hk : ∀ (s' : Sl) (H' : Heap), OwnR H' base e 1 s' (xs ++ ys) → Chg (fun b => s.blk = some b) H H' → (s'.blk = s.blk ∨ ∃ b, s'.blk = some b ∧ H.size ≤ b) → K s'.val H') : Ef C o L H K :=
  Ef.of (by rw [ho]; rfl) fun act w ha hw => by
    have e1 := agr_of ha hx (by rw [ho]; simp [Op.operands, Call.operands])
    have e2 := agr_of ha hy (by rw [ho]; simp [Op.operands, Call.operands])
    subst hw
    obtain ⟨i, hi, hz1, hs1, hb1⟩ := ty.info he
    have hn : s.len = xs.length := by have := hown.1; omega
    have hrun : ∃ v' w', (Builtin.append_ #[t, t] o.type #[s.val, r.val]).run C.P w = .ok v' w' ∧ w'.ownsRow base e 1 v' (xs ++ ys).length (xs ++ ys) ∧ w.grownBy w' s.val.ownBlock ∧ (v'.ownBlock = s.val.ownBlock ∨ ∃ b, v'.ownBlock = some b ∧ w.heap.size ≤ b) := by
      cases hr : r.ao with
      | none =>
        obtain ⟨h3, h4⟩ := r.ok hr
        have hys : ys = [] := List.eq_nil_of_length_eq_zero (by rw [← hrow.len]; exact h3)
        subst hys
        have := run_append_owned_none (P := C.P) (w := w) base t o.type e i 1 (Tbl.ok.find ht).1 hi s.val s.len xs hown.to
        refine ⟨s.val, w, ?_, by simpa [hn] using hown.to, ⟨rfl, rfl, rfl, Nat.le_refl _, fun _ _ _ => rfl⟩, .inl rfl⟩
        simpa [Sl.val, hr, h3, h4] using this
      | some ad =>
        obtain ⟨v', w', h2, h3, h4, h5, h6⟩ := run_append_own_at (P := C.P) w base t o.type e i z' 1 bytes (Tbl.ok.find ht).1 hi hz1 hs1 hb1 (by rw [oneCell_cells hz]; rfl) (by omega) s.val s.len xs hown.to
          ad r.len r.cap ys (by rw [hrow.len]; simp) (fun j u hj => by rw [add_eq_cell r ad hr]; exact hrow.cell j u hj) (fun u hu => by have := h1 u hu; cases u <;> simp_all [oneCell, Value.oneCell'])
          (by rw [hn, hrow.len]; simpa [maxLen] using hl2) (by rw [hn, hrow.len]; exact hl) hbase
        refine ⟨v', w', by simpa [Sl.val, hr] using h2, by simpa [hn, hrow.len] using h3, h4, ?_⟩
        exact h6.imp id fun h => ⟨_, h, Nat.le_refl _⟩
    obtain ⟨v', w', h2, h3, h4, h5⟩ := hrun
    have hblk : s.blk = s.val.ownBlock := by cases hh : s.ao <;> simp [Sl.blk, Sl.val, Value.ownBlock, hh]
    obtain ⟨s', rfl, hl', ho', hb'⟩ := OwnR.of h3
    refine .inl ⟨s'.val, w', ?_, ⟨h4.os, h4.tape, h4.output⟩, hk s' _ ho' ⟨h4.size, fun b hb hs => h4.block b hb (fun e => hs (by rw [hblk]; exact e.symm))⟩ ?_⟩
    · simp [execOp, ho, resolve, invoke, builtin, e1, e2, h2, Result.andThen, Sem.run_bind, Sem.run]
    · rw [hb', hblk]
      exact h5
/-! ### Rows that are made -/
def Sl.fresh (b n : Nat) : Sl := ⟨some ⟨b, 0, none⟩, n, n, fun h => (by cases h), Nat.le_refl _⟩
theorem Sl.fresh_val (b n : Nat) : (Sl.fresh b n).val = .slice (some ⟨b, 0, none⟩) n n := rfl
theorem OwnR.fresh (H : Heap) (e : TypeId) (vs : List Value) (h : vs.length ≤ maxLen) : OwnR (H.push (.cells vs.toArray e)) H.size e 1 (Sl.fresh H.size vs.length) vs := by
  refine ⟨by simp [Sl.fresh], .inr ⟨H.size, vs.toArray, rfl, Nat.le_refl _, by rw [Array.getElem?_push, if_pos rfl], Nat.le_refl _, h, by simp [Sl.fresh], ?_⟩⟩
  simp [Sl.fresh]
def pvs (L : Env) : Nat → List (Nat × Operand) → Option (List Value)
  | _, [] => some []
  | k, (i, x) :: r => bif Nat.beq i k then (match L.ev x, pvs L (k + 1) r with
    | some v, some vs => some (v :: vs)
    | _, _ => none) else none
def allOne : List Value → Bool
  | [] => true
  | v :: r => oneCell v && allOne r
theorem allOne_spec : ∀ {l : List Value}, allOne l = true → ∀ v ∈ l, oneCell v = true
  | [], _, v, hv => by cases hv
  | x :: r, h, v, hv => by
    simp only [allOne, Bool.and_eq_true] at h
    rcases List.mem_cons.1 hv with rfl | hv
    · exact h.1
    · exact allOne_spec h.2 v hv
theorem pvs_spec {a : Act} : ∀ {k : Nat} {ps : List (Nat × Operand)} {vs : List Value}, pvs L k ps = some vs → (∀ p ∈ ps, ∀ u, L.ev p.2 = some u → a.eval p.2 = u) →
    ps.map (fun p => (p.1, a.eval p.2)) = (vs.zipIdx k).map fun p => (p.2, p.1)
  | k, [], vs, h, _ => by simp [pvs] at h; subst h; rfl
  | k, (i, x) :: r, vs, h, ha => by
    simp only [pvs] at h
    cases hb : Nat.beq i k with
    | false => rw [hb] at h; simp at h
    | true =>
      rw [hb] at h
      simp only [cond_true] at h
      split at h
      · rename_i v vs' h1 h2
        simp only [Option.some.injEq] at h
        subst h
        have := Nat.eq_of_beq_eq_true hb
        subst this
        rw [List.map_cons, ha (i, x) List.mem_cons_self v h1, pvs_spec h2 fun p hp => ha p (List.mem_cons_of_mem _ hp)]
        rfl
      · cases h
theorem fill_all : ∀ (vs : List Value) (k : Nat) (cells : Array Value), allOne vs = true → cells.size = k + vs.length →
    Instr.fill (fun i => some (i * 1, 1)) cells ((vs.zipIdx k).map fun p => (p.2, p.1)) = some ((cells.toList.take k ++ vs).toArray)
  | [], k, cells, _, hs => by
    simp only [List.zipIdx_nil, List.map_nil, Instr.fill, List.append_nil]
    congr 1
    apply Array.ext'
    simp only [List.length_nil, Nat.add_zero] at hs
    rw [List.take_of_length_le (by simp [hs])]
  | v :: vs, k, cells, h1, hs => by
    simp only [allOne, Bool.and_eq_true] at h1
    simp only [List.zipIdx_cons, List.map_cons, Instr.fill, oneCell_cells h1.1, Nat.mul_one]
    simp only [List.length_cons] at hs
    have h3 : ¬ (cells.size < k + 1) := by omega
    have h4 : ((#[v] : Array Value).size != 1 || decide (k + (#[v] : Array Value).size > cells.size)) = false := by simp; omega
    rw [if_neg (by simp; omega)]
    simp only [Array.zipIdx, List.zipIdx]
    have h5 : (Array.foldl (fun cs (x : Value × Nat) => cs.setIfInBounds (k + x.2) x.1) cells (#[(v, 0)] : Array (Value × Nat))) = cells.setIfInBounds k v := by simp
    have := fill_all vs (k + 1) (cells.setIfInBounds k v) h1.2 (by simp; omega)
    simp only [Nat.mul_one] at this
    have h6 : ((cells.setIfInBounds k v).toList.take (k + 1) ++ vs) = cells.toList.take k ++ v :: vs := by
      rw [Array.toList_setIfInBounds, List.take_add_one]
      have h7 : k < cells.size := by omega
      rw [List.take_set, List.set_eq_of_length_le (by simp; omega)]
      simp [h7]
    have h8 : (Array.mapIdx (fun i (a : Value) => (a, 0 + i)) #[v]) = #[(v, 0)] := by simp
    rw [← h6, ← this, ← h5]
    try rw [h8]
theorem Ef.buildSlice [Tbl C.P] {t n e sz bt bytes : Nat} {z z' : Value} {d : TypeDesc} {ps : List (Nat × Operand)} {vs : List Value} {K : Value → Heap → Prop} (ho : o.op = .buildSlice t n ps.toArray)
    (hp : pvs L 0 ps = some vs) (ht : ty C.P t = some ⟨.slice e, sz, bt, z⟩) (he : ty C.P e = some ⟨d, 1, bytes, z'⟩) (hz : oneCell z' = true) (hn : Nat.beq n vs.length = true) (hn2 : Nat.ble n 1000 = true) (h1 : allOne vs = true)
    (hk : ∀ H', OwnR H' H.size e 1 (Sl.fresh H.size n) vs → Ext H H' → H'.size = H.size + 1 → K (Sl.fresh H.size n).val H') : Ef C o L H K :=
  Ef.of (by rw [ho]; rfl) fun act w ha hw => by
    subst hw
    have hnn := Nat.eq_of_beq_eq_true hn
    have hn3 : n ≤ 1000 := Nat.le_of_ble_eq_true hn2
    have hps := pvs_spec (a := act) hp fun p hp u hu => ha p.2 (by rw [ho]; simp [Op.operands]; exact ⟨_, hp⟩) u hu
    have hfill : Instr.fill (fun i => some (i * 1, 1)) ((Array.range n).map fun x => z') (ps.map fun p => (p.1, act.eval p.2)) = some vs.toArray := by
      rw [hps]
      have := fill_all vs 0 ((Array.range n).map fun x => z') h1 (by simp [hnn])
      simpa using this
    have hown := OwnR.fresh w.heap e vs (by rw [← hnn]; simp only [maxLen]; omega)
    rw [← hnn] at hown
    refine .inl ⟨(Sl.fresh w.heap.size n).val, { w with heap := w.heap.push (.cells vs.toArray e) }, ?_, ⟨rfl, rfl, rfl⟩, hk _ hown (Ext.push _ _) (by simp)⟩
    have hlim : ¬ (n * 1 > 2 ^ 24) := by omega
    have hc : z'.cells = #[z'] := oneCell_cells hz
    by_cases h0 : n = 0
    · subst h0
      have hv : vs = [] := List.eq_nil_of_length_eq_zero hnn.symm
      subst hv
      have hp0 : ps = [] := by
        cases ps with
        | nil => rfl
        | cons p r => rw [List.map_cons] at hps; simp at hps
      subst hp0
      have hr0 : (Array.map (fun x => (default : Value)) (Array.range 0)) = #[] := by apply Array.ext'; simp [Array.toList_range]
      simp [execOp, ho, Instr.buildSlice, Sem.run_bind, ty.und ht, ty.sizeOf he, Result.andThen, Instr.fill, newRow, newObj, Sem.run, Sl.fresh_val, hr0]
    · have hm : (Array.range n).map (fun x => ([z'] : List Value)[x % 1]?.getD default) = (Array.range n).map fun x => z' := by
        apply Array.map_congr_left
        intro x _
        simp [Nat.mod_one]
      have hpa : Array.map (fun x : Nat × Operand => (x.fst, act.eval x.snd)) ps.toArray = (ps.map fun p => (p.1, act.eval p.2)).toArray := by simp
      have hfill' := hfill
      simp only [Nat.mul_one] at hfill'
      simp [execOp, ho, Instr.buildSlice, Sem.run_bind, ty.und ht, ty.sizeOf he, ty.zero he, hc, Result.andThen, h0, newRow, newObj, Sem.run, Sl.fresh_val, hm, hfill', show ¬ (2 ^ 24 < n) from by omega]
theorem Ef.makeSlice [Tbl C.P] {t n e sz bt bytes : Nat} {k k' : IntKind} {z z' : Value} {d : TypeDesc} {x y : Operand} {K : Value → Heap → Prop} (ho : o.op = .makeSlice t x y)
    (hx : L.ev x = some (.int k (n : Int))) (hy : L.ev y = some (.int k' (n : Int))) (ht : ty C.P t = some ⟨.slice e, sz, bt, z⟩) (he : ty C.P e = some ⟨d, 1, bytes, z'⟩) (hz : oneCell z' = true) (hn : bytes * n ≤ 281474976710656) (hn2 : n ≤ 281474976710656)
    (hk : ∀ H', OwnR H' H.size e 1 (Sl.fresh H.size n) (List.replicate n z') → Ext H H' → H'.size = H.size + 1 → K (Sl.fresh H.size n).val H') : Ef C o L H K :=
  Ef.of (by rw [ho]; rfl) fun act w ha hw => by
    subst hw
    have e1 := agr_of ha hx (by rw [ho]; simp [Op.operands])
    have e2 := agr_of ha hy (by rw [ho]; simp [Op.operands])
    obtain ⟨i, hi, hz1, hs1, hb1⟩ := ty.info he
    have hrun := run_make (P := C.P) w t e i z' (Tbl.ok.find ht).1 hi hz1 k k' n n (by omega) (Int.le_refl _) (by rw [show i.bytes = bytes from hb1, ← Int.natCast_mul]; omega) (by omega)
    have hcells : madeCells z'.cells (n * i.size) = (List.replicate n z').toArray := by
      rw [oneCell_cells hz, hs1]
      apply Array.ext'
      apply List.ext_getElem
      · simp [madeCells]
      · intro j h1 h2; simp [madeCells, Nat.mod_one]
    have hown := OwnR.fresh w.heap e (List.replicate n z') (by simp only [maxLen, List.length_replicate]; omega)
    rw [List.length_replicate] at hown
    refine .inl ⟨(Sl.fresh w.heap.size n).val, { w with heap := w.heap.push (.cells (List.replicate n z').toArray e) }, ?_, ⟨rfl, rfl, rfl⟩, hk _ hown (Ext.push _ _) (by simp)⟩
    simp only [Int.toNat_natCast, hcells] at hrun
    simp only [execOp, ho, e1, e2, Sem.run_bind, hrun, Result.andThen]
    rfl
/-! ### Cuts -/
/-- s[l:h:m], of elements of one cell. -/
def Sl.cut (s : Sl) (l h m : Nat) : Sl :=
  if hh : l ≤ h ∧ h ≤ m ∧ m ≤ s.cap then ⟨if m = l then s.ao else s.ao.map (·.add l), h - l, m - l, fun hn => by
    have : s.ao = none := by
      split at hn
      · exact hn
      · simpa using hn
    have := (s.ok this).2
    omega, by omega⟩ else Sl.nil
theorem Sl.cut_val {s : Sl} {l h m : Nat} (hh : l ≤ h ∧ h ≤ m ∧ m ≤ s.cap) : (s.cut l h m).val = .slice (if m = l then s.ao else s.ao.map (·.add l)) (h - l) (m - l) := by
  unfold Sl.cut; rw [dif_pos hh]; rfl
theorem Sl.cut_len {s : Sl} {l h m : Nat} (hh : l ≤ h ∧ h ≤ m ∧ m ≤ s.cap) : (s.cut l h m).len = h - l := by
  unfold Sl.cut; rw [dif_pos hh]
theorem Sl.cut_cap {s : Sl} {l h m : Nat} (hh : l ≤ h ∧ h ≤ m ∧ m ≤ s.cap) : (s.cut l h m).cap = m - l := by
  unfold Sl.cut; rw [dif_pos hh]
theorem Sl.cut_cell {s : Sl} {l h m : Nat} (hh : l ≤ h ∧ h ≤ m ∧ m ≤ s.cap) {j : Nat} (hj : j < h - l) : (s.cut l h m).cell j = s.cell (l + j) := by
  rw [Sl.cell_eq, Sl.cell_eq]
  unfold Sl.cut
  rw [dif_pos hh]
  have : ¬ m = l := by omega
  simp only [this, if_false]
  cases hs : s.ao with
  | none => have := (s.ok hs).2; omega
  | some a => simp [add_add]
theorem Sl.cut_blk {s : Sl} {l h m : Nat} {b : Nat} (hb : (s.cut l h m).blk = some b) : s.blk = some b := by
  unfold Sl.cut Sl.blk at *
  split at hb
  · simp only at hb
    split at hb
    · exact hb
    · cases hs : s.ao with
      | none => rw [hs] at hb; simp at hb
      | some a =>
        rw [hs] at hb
        simp only [Option.map_some, Option.some.injEq] at hb ⊢
        rw [← hb]
        unfold Addr.add
        split <;> rfl
  · simp [Sl.nil] at hb
theorem Row.cut {s : Sl} {l h m : Nat} {vs : List Value} (hr : Row H s vs) (hh : l ≤ h ∧ h ≤ m ∧ m ≤ s.cap) (hl : h ≤ vs.length) : Row H (s.cut l h m) ((vs.take h).drop l) := by
  refine ⟨by rw [Sl.cut_len hh]; simp; omega, fun j v hj => ?_⟩
  have hlt := (List.getElem?_eq_some_iff.1 hj).1
  simp at hlt
  rw [Sl.cut_cell hh (by omega)]
  refine hr.cell _ _ ?_
  rw [List.getElem?_drop, List.getElem?_take] at hj
  split at hj
  · exact hj
  · cases hj
theorem RowF.cut {β : Type} {f : β → Value} {dd : β} {s : Sl} {l h m : Nat} {bs : List β} (hr : RowF f dd H s bs) (hh : l ≤ h ∧ h ≤ m ∧ m ≤ s.cap) (hl : h ≤ bs.length) : RowF f dd H (s.cut l h m) ((bs.take h).drop l) := by
  refine Row.rowF ?_
  rw [List.map_drop, List.map_take]
  exact hr.row.cut hh (by simpa using hl)
theorem Bytes.cut {s : Sl} {l h m : Nat} {bs : List UInt8} (hr : Bytes H s bs) (hh : l ≤ h ∧ h ≤ m ∧ m ≤ s.cap) (hl : h ≤ bs.length) : Bytes H (s.cut l h m) ((bs.take h).drop l) := by
  refine Row.bytes ?_
  rw [List.map_drop, List.map_take]
  exact hr.row.cut hh (by simpa using hl)
theorem Rd.slice [Tbl C.P] {t e sz bt bytes l h m : Nat} {z z' : Value} {d : TypeDesc} {x : Operand} {lo hi mx : Option Operand} {s : Sl} (ho : o.op = .slice t x lo hi mx) (hx : L.ev x = some s.val)
    (hlo : (lo = none ∧ l = 0) ∨ ∃ y k, lo = some y ∧ L.ev y = some (.int k (l : Int))) (hhi : (hi = none ∧ mx = none ∧ h = s.len) ∨ ∃ y k, hi = some y ∧ L.ev y = some (.int k (h : Int))) (hmx : (mx = none ∧ m = s.cap) ∨ ∃ y k, mx = some y ∧ L.ev y = some (.int k (m : Int)))
    (ht : ty C.P t = some ⟨.slice e, sz, bt, z⟩) (he : ty C.P e = some ⟨d, 1, bytes, z'⟩) (hh : l ≤ h ∧ h ≤ m ∧ m ≤ s.cap) : Rd C o L H (s.cut l h m).val :=
  Rd.of (by rw [ho]; rfl) fun act w ha ex => by
    have e1 := agr_of ha hx (by rw [ho]; simp [Op.operands])
    have el : ∀ y k, lo = some y → L.ev y = some (.int k (l : Int)) → act.eval y = .int k l := fun y k hy h => agr_of ha h (by rw [ho, hy]; simp [Op.operands])
    have eh : ∀ y k, hi = some y → L.ev y = some (.int k (h : Int)) → act.eval y = .int k h := fun y k hy h => agr_of ha h (by rw [ho, hy]; simp [Op.operands])
    have em : ∀ y k, mx = some y → L.ev y = some (.int k (m : Int)) → act.eval y = .int k m := fun y k hy h => agr_of ha h (by rw [ho, hy]; simp [Op.operands])
    have b1 : (0 : Int) ≤ l ∧ (l : Int) ≤ h := by omega
    have b2 : (0 : Int) ≤ h ∧ (h : Int) ≤ m := by omega
    have b3 : (0 : Int) ≤ m ∧ (m : Int) ≤ s.cap := by omega
    have b4 : (h : Int) ≤ s.cap := by omega
    rw [Sl.cut_val hh]
    simp only [Sl.val] at e1
    rcases hmx with ⟨rfl, rfl⟩ | ⟨ym, km, rfl, hym⟩
    · rcases hlo with ⟨rfl, rfl⟩ | ⟨yl, kl, rfl, hyl⟩ <;> rcases hhi with ⟨rfl, _, rfl⟩ | ⟨yh, kh, rfl, hyh⟩
      · simp [execOp, ho, e1, Instr.sliceAt, Instr.slice, Instr.sliceBounds, Sem.run_bind, ty.und ht, ty.sizeOf he, Result.andThen, Sem.run]
      · simp [execOp, ho, e1, eh _ _ rfl hyh, Instr.sliceAt, Instr.slice, Instr.sliceBounds, Instr.sliceBound, asIntOf, Sem.run_bind, ty.und ht, ty.sizeOf he, Result.andThen, Sem.run, b1, b2, b3, b4]
        rw [if_pos (by omega)]
        try (simp [Sem.run, Result.andThen])
      · simp [execOp, ho, e1, el _ _ rfl hyl, Instr.sliceAt, Instr.slice, Instr.sliceBounds, Instr.sliceBound, asIntOf, Sem.run_bind, ty.und ht, ty.sizeOf he, Result.andThen, Sem.run, b1, b2, b3, b4]
        rw [if_pos (by omega)]
        try (simp [Sem.run, Result.andThen])
      · simp [execOp, ho, e1, el _ _ rfl hyl, eh _ _ rfl hyh, Instr.sliceAt, Instr.slice, Instr.sliceBounds, Instr.sliceBound, asIntOf, Sem.run_bind, ty.und ht, ty.sizeOf he, Result.andThen, Sem.run, b1, b2, b3, b4]
        rw [if_pos (by omega)]
        try (simp [Sem.run, Result.andThen])
        rw [if_pos (by omega)]
        try (simp [Sem.run, Result.andThen])
    · rcases hhi with ⟨_, h0, _⟩ | ⟨yh, kh, rfl, hyh⟩
      · cases h0
      rcases hlo with ⟨rfl, rfl⟩ | ⟨yl, kl, rfl, hyl⟩
      · simp [execOp, ho, e1, eh _ _ rfl hyh, em _ _ rfl hym, Instr.sliceAt, Instr.slice, Instr.sliceBounds, Instr.sliceBound, asIntOf, Sem.run_bind, ty.und ht, ty.sizeOf he, Result.andThen, Sem.run, b1, b2, b3, b4]
        rw [if_pos (by omega)]
        try (simp [Sem.run, Result.andThen])
        rw [if_pos (by omega)]
        try (simp [Sem.run, Result.andThen])
      · simp [execOp, ho, e1, el _ _ rfl hyl, eh _ _ rfl hyh, em _ _ rfl hym, Instr.sliceAt, Instr.slice, Instr.sliceBounds, Instr.sliceBound, asIntOf, Sem.run_bind, ty.und ht, ty.sizeOf he, Result.andThen, Sem.run, b1, b2, b3, b4]
        rw [if_pos (by omega)]
        try (simp [Sem.run, Result.andThen])
        rw [if_pos (by omega)]
        try (simp [Sem.run, Result.andThen])
        rw [if_pos (by omega)]
        try (simp [Sem.run, Result.andThen])
/-! ### The same, as steps of a statement -/
theorem Box.free {b : Nat} {e : TypeId} {v : Value} (h : Box H b e v) : hfrozen H ⟨b, 0, none⟩ = false := by
  unfold hfrozen; simp [h.at_]
/-- The cell is there and may be written. -/
structure Wr (H : Heap) (a : Addr) : Prop where
  cell : ∃ u, hcell H a = some u
  free : hfrozen H a = false
theorem Box.wr {b : Nat} {e : TypeId} {v : Value} (h : Box H b e v) : Wr H ⟨b, 0, none⟩ := ⟨⟨_, h.cell⟩, h.free⟩
theorem OwnR.wr {H : Heap} {base : Nat} {e : TypeId} {s : Sl} {xs : List Value} (h : OwnR H base e 1 s xs) {j : Nat} (hj : j < xs.length) : Wr H (s.cell j) := ⟨⟨xs[j], h.row.cell j _ (List.getElem?_eq_getElem hj)⟩, h.frozen hj⟩
theorem Box.chg {H' : Heap} {S : Nat → Prop} {b : Nat} {e : TypeId} {v : Value} (h : Box H b e v) (c : Chg S H H') (hs : ¬S b) : Box H' b e v :=
  ⟨(c.get b (Array.getElem?_eq_some_iff.1 h.at_).1 hs).trans h.at_⟩
theorem Box.lt {b : Nat} {e : TypeId} {v : Value} (h : Box H b e v) : b < H.size := (Array.getElem?_eq_some_iff.1 h.at_).1
theorem Box.set {b : Nat} {e : TypeId} {v u : Value} (h : Box H b e v) : Box (hset H ⟨b, 0, none⟩ u) b e u := ⟨by
  have := hset_same (a := ⟨b, 0, none⟩) (v := u) h.at_ rfl
  simpa using this⟩
variable {ops : Array Oper} {l : List Oper} {ds : List Nat} {Kk : Env → Heap → Prop} {B : Array Nat} {p : Plan} {pend : List Rec}
theorem RegS.box {t d : Nat} {x : Operand} {v : Value} (k : ∀ H', Ext H H' → H'.size = H.size + 1 → H'[H.size]? = some (.cells v.cells t (0, 0)) → RegS C ops l ((d, .pointer (some ⟨H.size, 0, none⟩)) :: L) ds H' Kk)
    (ho : o.op = .box t x := by rfl) (hx : L.ev x = some v := by rfl) (hds : o.dst = some d := by rfl) (hg : gd ops o L = some true := by rfl) (hd : Nat.blt d C.N = true := by rfl) : RegS C ops (o :: l) L ds H Kk :=
  RegS.ef hg (by rw [hds]; exact hd) (Ef.box ho hx (by rw [hds]; exact k _ (Ext.push _ _) (by simp) (by rw [Array.getElem?_push, if_pos rfl])))
theorem RegS.alloc [Tbl C.P] {t d sz bt : Nat} {dd : TypeDesc} {z : Value} (k : ∀ H', Ext H H' → H'.size = H.size + 1 → H'[H.size]? = some (.cells z.cells t (0, 0)) → RegS C ops l ((d, .pointer (some ⟨H.size, 0, none⟩)) :: L) ds H' Kk)
    (ho : o.op = .alloc t := by rfl) (ht : ty C.P t = some ⟨dd, sz, bt, z⟩ := by rfl) (hds : o.dst = some d := by rfl) (hg : gd ops o L = some true := by rfl) (hd : Nat.blt d C.N = true := by rfl) : RegS C ops (o :: l) L ds H Kk :=
  RegS.ef hg (by rw [hds]; exact hd) (Ef.alloc ho ht (by rw [hds]; exact k _ (Ext.push _ _) (by simp) (by rw [Array.getElem?_push, if_pos rfl])))
theorem RegS.store [Tbl C.P] {t bt : Nat} {x y : Operand} {a : Addr} {d : TypeDesc} {z v : Value} (hw : Wr H a) (k : RegS C ops l L ds (hset H a v) Kk)
    (ho : o.op = .store t x y := by rfl) (hx : L.ev x = some (.pointer (some a)) := by rfl) (hy : L.ev y = some v := by rfl) (ht : ty C.P t = some ⟨d, 1, bt, z⟩ := by rfl) (h1 : oneCell v = true := by rfl) (hds : o.dst = none := by rfl) (hg : gd ops o L = some true := by rfl) : RegS C ops (o :: l) L ds H Kk :=
  RegS.ef hg (by rw [hds]; rfl) (hw.cell.elim fun u hc => Ef.store ho hx hy ht h1 hc hw.free (by rw [hds]; exact k))
theorem OwnR.rowF {β : Type} {f : β → Value} {dd : β} {base : Nat} {e : TypeId} {s : Sl} {l : List β} (h : OwnR H base e 1 s (l.map f)) : RowF f dd H s l := h.row.rowF
theorem OwnR.low {H : Heap} {base base' : Nat} {e : TypeId} {size : Nat} {s : Sl} {xs : List Value} (h : OwnR H base e size s xs) (hb : base' ≤ base) : OwnR H base' e size s xs :=
  ⟨h.1, h.2.imp id fun ⟨g, cur, ha, hg, r⟩ => ⟨g, cur, ha, Nat.le_trans hb hg, r⟩⟩
/-- A row of one's own, of what f makes of these. -/
abbrev OwnF {β : Type} (f : β → Value) (H : Heap) (base : Nat) (e : TypeId) (s : Sl) (l : List β) : Prop := OwnR H base e 1 s (l.map f)
theorem RegS.append [Tbl C.P] {β : Type} {f : β → Value} {dd : β} {t e sz bt bytes base dst : Nat} {z z' : Value} {td : TypeDesc} {x y : Operand} {s r : Sl} {l' m : List β}
    (hown : OwnF f H base e s l') (hrow : RowF f dd H r m) (h1 : ∀ b, oneCell (f b) = true) (hbase : base ≤ H.size) (hl : (l'.length + m.length) * bytes ≤ 140737488355328) (hl2 : l'.length + m.length ≤ 9223372036854775807)
    (k : ∀ (s' : Sl) (H' : Heap), OwnF f H' base e s' (l' ++ m) → Chg (fun b => s.blk = some b) H H' → (s'.blk = s.blk ∨ ∃ b, s'.blk = some b ∧ H.size ≤ b) → RegS C ops l ((dst, s'.val) :: L) ds H' Kk)
    (ho : o.op = .call { callee := .builtin .append, args := #[x, y], argTypes := #[t, t] } := by rfl) (hx : L.ev x = some s.val := by rfl) (hy : L.ev y = some r.val := by rfl)
    (ht : ty C.P t = some ⟨.slice e, sz, bt, z⟩ := by rfl) (he : ty C.P e = some ⟨td, 1, bytes, z'⟩ := by rfl) (hz : oneCell z' = true := by rfl)
    (hds : o.dst = some dst := by rfl) (hg : gd ops o L = some true := by rfl) (hd : Nat.blt dst C.N = true := by rfl) : RegS C ops (o :: l) L ds H Kk :=
  RegS.ef hg (by rw [hds]; exact hd) (Ef.append ho hx hy ht he hz hown hrow.row (fun v hv => by obtain ⟨b, _, rfl⟩ := List.mem_map.1 hv; exact h1 b) hbase (by simpa using hl) (by simpa using hl2)
    fun s' H' ho' hc hb => by rw [hds]; exact k s' H' (by rw [OwnF, List.map_append]; exact ho') hc hb)
theorem RegP.append [Tbl C.P] {β : Type} {f : β → Value} {dd : β} {i t e sz bt bytes base dst : Nat} {keep : List Nat} {z z' : Value} {td : TypeDesc} {x y : Operand} {s r : Sl} {l' m : List β}
    (hown : OwnF f H base e s l') (hrow : RowF f dd H r m) (h1 : ∀ b, oneCell (f b) = true) (hbase : base ≤ H.size) (hl : (l'.length + m.length) * bytes ≤ 140737488355328) (hl2 : l'.length + m.length ≤ 9223372036854775807)
    (k : ∀ (s' : Sl) (H' : Heap), OwnF f H' base e s' (l' ++ m) → Chg (fun b => s.blk = some b) H H' → (s'.blk = s.blk ∨ ∃ b, s'.blk = some b ∧ H.size ≤ b) → (Ext H H' ∨ Proms C ops H' (pfilter keep pend)) ∧ RegP C ops B p (pfilter keep pend) ((dst, s'.val) :: L) ds H' Kk)
    (hi : ops[i]? = some o := by rfl) (ho : o.op = .call { callee := .builtin .append, args := #[x, y], argTypes := #[t, t] } := by rfl) (hx : L.ev x = some s.val := by rfl) (hy : L.ev y = some r.val := by rfl)
    (ht : ty C.P t = some ⟨.slice e, sz, bt, z⟩ := by rfl) (he : ty C.P e = some ⟨td, 1, bytes, z'⟩ := by rfl) (hz : oneCell z' = true := by rfl)
    (hds : o.dst = some dst := by rfl) (hg : gd ops o L = some true := by rfl) (hd : Nat.blt dst C.N = true := by rfl) : RegP C ops B (.e i keep p .nil) pend L ds H Kk :=
  RegP.ef (Ef.append ho hx hy ht he hz hown hrow.row (fun v hv => by obtain ⟨b, _, rfl⟩ := List.mem_map.1 hv; exact h1 b) hbase (by simpa using hl) (by simpa using hl2)
    fun s' H' ho' hc hb => by rw [hds]; exact k s' H' (by rw [OwnF, List.map_append]; exact ho') hc hb) hi hg (by rw [hds]; exact hd)
theorem RegS.buildSlice [Tbl C.P] {t n e sz bt bytes dst : Nat} {z z' : Value} {d : TypeDesc} {ps : List (Nat × Operand)} {vs : List Value}
    (k : ∀ H', OwnR H' H.size e 1 (Sl.fresh H.size n) vs → Ext H H' → H'.size = H.size + 1 → RegS C ops l ((dst, (Sl.fresh H.size n).val) :: L) ds H' Kk)
    (ho : o.op = .buildSlice t n ps.toArray := by rfl) (hp : pvs L 0 ps = some vs := by rfl) (ht : ty C.P t = some ⟨.slice e, sz, bt, z⟩ := by rfl) (he : ty C.P e = some ⟨d, 1, bytes, z'⟩ := by rfl) (hz : oneCell z' = true := by rfl) (hn : Nat.beq n vs.length = true := by rfl) (hn2 : Nat.ble n 1000 = true := by rfl) (h1 : allOne vs = true := by rfl)
    (hds : o.dst = some dst := by rfl) (hg : gd ops o L = some true := by rfl) (hd : Nat.blt dst C.N = true := by rfl) : RegS C ops (o :: l) L ds H Kk :=
  RegS.ef hg (by rw [hds]; exact hd) (Ef.buildSlice ho hp ht he hz hn hn2 h1 fun H' a b c => by rw [hds]; exact k H' a b c)
theorem RegP.buildSlice [Tbl C.P] {i t n e sz bt bytes dst : Nat} {keep : List Nat} {z z' : Value} {d : TypeDesc} {ps : List (Nat × Operand)} {vs : List Value}
    (k : ∀ H', OwnR H' H.size e 1 (Sl.fresh H.size n) vs → Ext H H' → H'.size = H.size + 1 → RegP C ops B p (pfilter keep pend) ((dst, (Sl.fresh H.size n).val) :: L) ds H' Kk)
    (hi : ops[i]? = some o := by rfl) (ho : o.op = .buildSlice t n ps.toArray := by rfl) (hp : pvs L 0 ps = some vs := by rfl) (ht : ty C.P t = some ⟨.slice e, sz, bt, z⟩ := by rfl) (he : ty C.P e = some ⟨d, 1, bytes, z'⟩ := by rfl) (hz : oneCell z' = true := by rfl) (hn : Nat.beq n vs.length = true := by rfl) (hn2 : Nat.ble n 1000 = true := by rfl) (h1 : allOne vs = true := by rfl)
    (hds : o.dst = some dst := by rfl) (hg : gd ops o L = some true := by rfl) (hd : Nat.blt dst C.N = true := by rfl) : RegP C ops B (.e i keep p .nil) pend L ds H Kk :=
  RegP.ef (Ef.buildSlice ho hp ht he hz hn hn2 h1 fun H' a b c => by rw [hds]; exact ⟨.inl b, k H' a b c⟩) hi hg (by rw [hds]; exact hd)
theorem RegS.makeSlice [Tbl C.P] {t n e sz bt bytes dst : Nat} {k₁ k₂ : IntKind} {z z' : Value} {d : TypeDesc} {x y : Operand} (hn : bytes * n ≤ 281474976710656) (hn2 : n ≤ 281474976710656)
    (k : ∀ H', OwnR H' H.size e 1 (Sl.fresh H.size n) (List.replicate n z') → Ext H H' → H'.size = H.size + 1 → RegS C ops l ((dst, (Sl.fresh H.size n).val) :: L) ds H' Kk)
    (ho : o.op = .makeSlice t x y := by rfl) (hx : L.ev x = some (.int k₁ (n : Int)) := by rfl) (hy : L.ev y = some (.int k₂ (n : Int)) := by rfl) (ht : ty C.P t = some ⟨.slice e, sz, bt, z⟩ := by rfl) (he : ty C.P e = some ⟨d, 1, bytes, z'⟩ := by rfl) (hz : oneCell z' = true := by rfl)
    (hds : o.dst = some dst := by rfl) (hg : gd ops o L = some true := by rfl) (hd : Nat.blt dst C.N = true := by rfl) : RegS C ops (o :: l) L ds H Kk :=
  RegS.ef hg (by rw [hds]; exact hd) (Ef.makeSlice ho hx hy ht he hz hn hn2 fun H' a b c => by rw [hds]; exact k H' a b c)
/-- s[:h], s[l:], s[l:h], s[l:h:m]: the bounds are told. -/
theorem RegS.cut [Tbl C.P] {t e sz bt bytes dst : Nat} {z z' : Value} {d : TypeDesc} {x : Operand} {lo hi mx : Option Operand} {s : Sl} (lb hb mb : Nat)
    (hlo : (lo = none ∧ lb = 0) ∨ ∃ y k, lo = some y ∧ L.ev y = some (.int k (lb : Int))) (hhi : (hi = none ∧ mx = none ∧ hb = s.len) ∨ ∃ y k, hi = some y ∧ L.ev y = some (.int k (hb : Int))) (hmx : (mx = none ∧ mb = s.cap) ∨ ∃ y k, mx = some y ∧ L.ev y = some (.int k (mb : Int)))
    (hh : lb ≤ hb ∧ hb ≤ mb ∧ mb ≤ s.cap) (k : RegS C ops l ((dst, (s.cut lb hb mb).val) :: L) ds H Kk)
    (ho : o.op = .slice t x lo hi mx := by rfl) (hx : L.ev x = some s.val := by rfl) (ht : ty C.P t = some ⟨.slice e, sz, bt, z⟩ := by rfl) (he : ty C.P e = some ⟨d, 1, bytes, z'⟩ := by rfl)
    (hds : o.dst = some dst := by rfl) (hg : gd ops o L = some true := by rfl) (hd : Nat.blt dst C.N = true := by rfl) : RegS C ops (o :: l) L ds H Kk :=
  RegS.rd hg (by rw [hds]; exact hd) (Rd.slice ho hx hlo hhi hmx ht he hh) (by rw [hds]; exact k)
theorem RegP.cut [Tbl C.P] {i t e sz bt bytes dst : Nat} {z z' : Value} {d : TypeDesc} {x : Operand} {lo hi mx : Option Operand} {s : Sl} (lb hb mb : Nat)
    (hlo : (lo = none ∧ lb = 0) ∨ ∃ y k, lo = some y ∧ L.ev y = some (.int k (lb : Int))) (hhi : (hi = none ∧ mx = none ∧ hb = s.len) ∨ ∃ y k, hi = some y ∧ L.ev y = some (.int k (hb : Int))) (hmx : (mx = none ∧ mb = s.cap) ∨ ∃ y k, mx = some y ∧ L.ev y = some (.int k (mb : Int)))
    (hh : lb ≤ hb ∧ hb ≤ mb ∧ mb ≤ s.cap) (k : RegP C ops B p (⟨i, L, (s.cut lb hb mb).val⟩ :: pend) ((dst, (s.cut lb hb mb).val) :: L) ds H Kk)
    (hi' : ops[i]? = some o := by rfl) (ho : o.op = .slice t x lo hi mx := by rfl) (hx : L.ev x = some s.val := by rfl) (ht : ty C.P t = some ⟨.slice e, sz, bt, z⟩ := by rfl) (he : ty C.P e = some ⟨d, 1, bytes, z'⟩ := by rfl)
    (hds : o.dst = some dst := by rfl) (hg : gd ops o L = some true := by rfl) (hd : Nat.blt dst C.N = true := by rfl) : RegP C ops B (.q i p) pend L ds H Kk :=
  RegP.rd hi' hg (by rw [hds]; exact hd) (Rd.slice ho hx hlo hhi hmx ht he hh) (by rw [hds]; exact k)
theorem RegP.store [Tbl C.P] {i t bt : Nat} {keep : List Nat} {x y : Operand} {a : Addr} {d : TypeDesc} {z v : Value} (hw : Wr H a) (hp : Proms C ops (hset H a v) (pfilter keep pend)) (k : RegP C ops B p (pfilter keep pend) L ds (hset H a v) Kk)
    (hi : ops[i]? = some o := by rfl) (ho : o.op = .store t x y := by rfl) (hx : L.ev x = some (.pointer (some a)) := by rfl) (hy : L.ev y = some v := by rfl) (ht : ty C.P t = some ⟨d, 1, bt, z⟩ := by rfl) (h1 : oneCell v = true := by rfl) (hds : o.dst = none := by rfl) (hg : gd ops o L = some true := by rfl) : RegP C ops B (.e i keep p .nil) pend L ds H Kk :=
  RegP.ef (hw.cell.elim fun u hc => Ef.store ho hx hy ht h1 hc hw.free (by rw [hds]; exact ⟨.inr hp, k⟩)) hi hg (by rw [hds]; rfl)
end
/-! ### Returns behind loops over functions -/
theorem put_chg (H : Heap) (D : Nat) (ob : Obj) : Chg (· = D) H (H.setIfInBounds D ob) := ⟨by simp, fun b _ hs => by rw [Array.getElem?_setIfInBounds_ne (fun e => hs e.symm)]⟩
theorem put_ext {H0 H : Heap} {D : Nat} {ob : Obj} (e : Ext H0 H) (h : H0.size ≤ D) : Ext H0 (H.setIfInBounds D ob) := e.then (put_chg H D ob) fun b hb => hb ▸ h
section
variable {C : Cx} {L : Env} {H : Heap} {fn : Func} {R : Value → Heap → Prop} {D : Nat}
theorem retD {ds : List Nat} {v : Value} (hs : Shuts ds H) (hr : Res C.P fn C.N L (shutAll ds H) v) (h : R v (shutAll ds H)) : retQ C fn R .ret L ds H := by
  unfold retQ; exact ⟨hs, v, hr, h⟩
theorem ret1d {t : Nat} {v : Value} (hd : H[D]? = some (.deferred (some []))) (h : R v (H.setIfInBounds D (.deferred none))) (hr : fn.results = #[.tmp t] := by rfl) (hv : L.get t = some v := by rfl) : retQ C fn R .ret L [D] H := retD ⟨hd, trivial⟩ (Res.one hr hv) h
end
theorem Chg.above {S : Nat → Prop} {B : Nat} {H H' : Heap} (c : Chg S H H') (h : ∀ b, S b → b < B) : Above B H H' := ⟨c.size, fun b hb hl => c.get b hl fun k => by have := h b k; omega⟩
/-- A range whose rounds' arguments are told beforehand. -/
theorem Wp.rangeA {P : Program} {u : World} {N : Nat} {X : List Nat} {pl : List (Nat × Plan)} {f : Operand} {ps : List Nat} {assign body : Code} {Q : QPost} {L : Env} {ds : List Nat} {H : Heap} {g : FuncId} {cap : List Value} {n : Nat} {av : Nat → List Value} {pre : Heap → Prop}
    (it : Iter P g cap n (fun k _ vs => vs = av k) pre) (aenv : Nat → Env) (I : Nat → Heap → Prop) (Ix : Exit → Heap → Prop)
    (hpre : ∀ k H, I k H → pre H) (hI : ∀ k A B S, I k A → Chg S A B → (∀ b, S b → H.size ≤ b) → I k B) (hIx : ∀ e A B S, Ix e A → Chg S A B → (∀ b, S b → H.size ≤ b) → Ix e B) (h0 : I 0 H)
    (hassign : ∀ u l k, k < n → ∀ A, Wp ⟨P, u, N, some l, X, pl⟩ assign (fun e L' ds' H1 => e = .normal ∧ ds' = [] ∧ H1 = A ∧ Sub (aenv k) L') (zipEnv ps (av k) L) [] A)
    (hbody : ∀ u l k A, k < n → I k A → Wp ⟨P, u, N, some l, X, pl⟩ body (bodyQ H.size (I (k + 1)) Ix A) (aenv k) [] A)
    (hdone : ∀ A D, H.size ≤ D → I n A → A[D]? = some (.deferred (some [])) → Q .normal L (D :: ds) A)
    (hstop : ∀ e A D, H.size ≤ D → Ix e A → A[D]? = some (.deferred (some [])) → Q e L (D :: ds) A)
    (hf : L.ev f = some (.func (.func g) #[] cap.toArray) := by rfl) (hps : allLt N ps = true := by rfl) (hlen : ∀ k, (av k).length = ps.length := by intro k; rfl) : Wp ⟨P, u, N, none, X, pl⟩ (.rangeFunc f ps.toArray assign body) Q L ds H := by
  refine Wp.range (C := ⟨P, u, N, none, X, pl⟩) (arg := fun k _ vs => vs = av k) (n := n) (pre := pre) (fun k _ => aenv k) I Ix rfl hf hps it hpre (fun k A B h e => hI k A B _ h (e.chg fun _ => False) fun _ h => h.elim) (fun k A B h e => hIx k A B _ h (e.chg fun _ => False) fun _ h => h.elim)
    (fun k A l r r' hl _ h => hI k _ _ _ h (put_chg _ _ _) fun b hb => hb ▸ hl) (fun k A l r r' hl _ h => hIx k _ _ _ h (put_chg _ _ _) fun b hb => hb ▸ hl) (fun _ _ _ _ _ _ _ _ h => h) (fun k _ _ h => by rw [h]; exact hlen k) h0 ?_ ?_ hdone hstop
  · rintro u l k A vs hl hk hi rfl
    exact hassign u l k hk A
  · rintro u l k A vs hl hk hi rfl
    exact hbody u l k A hk hi
theorem blk_free {H : Heap} {b j : Nat} {c : Array Value} {e : TypeId} (h : H[b]? = some (.cells c e (0, 0))) : hfrozen H ⟨b, j, none⟩ = false := by
  unfold hfrozen; simp [h]
theorem blk_wr {H : Heap} {b j : Nat} {c : Array Value} {e : TypeId} (h : H[b]? = some (.cells c e (0, 0))) (hj : j < c.size) : Wr H ⟨b, j, none⟩ := ⟨⟨_, (blk_cell h).trans (Array.getElem?_eq_getElem hj)⟩, blk_free h⟩
theorem blk_set {H : Heap} {b j : Nat} {c : Array Value} {e : TypeId} {v : Value} (h : H[b]? = some (.cells c e (0, 0))) : (hset H ⟨b, j, none⟩ v)[b]? = some (.cells (c.setIfInBounds j v) e (0, 0)) :=
  hset_same (a := ⟨b, j, none⟩) h rfl
end Go.Vc
