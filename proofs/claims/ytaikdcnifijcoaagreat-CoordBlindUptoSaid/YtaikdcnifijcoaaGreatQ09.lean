/-
  The calculus, part 14: ranges over functions whose iterators hold nothing of their own.
-/
import Derived.Test.YtaikdcnifijcoaaGreatQ08
set_option linter.unusedVariables false
set_option linter.unusedSimpArgs false
namespace Go.Vc
/-- An iterator's word, that holds nothing of its own. -/
def IterW (P : Program) (g : FuncId) (cap : List Value) (n : Nat) (arg : Nat → Heap → List Value → Prop) (pre : Heap → Prop) : Prop :=
  ∀ (l : Nat) (J : Nat → Heap → Prop) (Jx : Heap → Prop) (H : Heap),
    (∀ k H, J k H → pre H) → (∀ k H H', J k H → Ext H H' → J k H') → (∀ H H', Jx H → Ext H H' → Jx H') →
    (∀ k H' vs, k < n → J k H' → arg k H' vs → YieldH P l vs H' fun v H'' => (v = .bool true ∧ J (k + 1) H'') ∨ (v = .bool false ∧ Jx H'')) →
    J 0 H → CallsH P g (.func (.yield l) #[] #[] :: cap) H fun _ H' => J n H' ∨ Jx H'
/-- Two blocks, that the loop holds, are as they were. -/
def Pair (B : Nat) (H H' : Heap) : Prop := ∀ b, B ≤ b → b < B + 2 → H'[b]? = H[b]?
theorem Pair.trans {B : Nat} {A D E : Heap} (h : Pair B A D) (k : Pair B D E) : Pair B A E := fun b h1 h2 => (k b h1 h2).trans (h b h1 h2)
def bodyW (B : Nat) (I : Heap → Prop) (Ix : Exit → Heap → Prop) (H : Heap) : QPost
  | .normal, _, ds, H' => ds = [] ∧ Pair B H H' ∧ I H'
  | .ret, _, ds, H' => ds = [] ∧ Pair B H H' ∧ Ix .ret H'
  | .exit id, _, ds, H' => ds = [] ∧ Pair B H H' ∧ Ix (.exit id) H'
  | _, _, _, _ => False
/-- A range over a function whose iterator holds nothing of its own: the body may turn whatever it likes, but what the loop itself holds. -/
theorem Wp.rangeX {C : Cx} {f : Operand} {ps : List Nat} {assign body : Code} {Q : QPost} {L : Env} {ds : List Nat} {H : Heap} {g : FuncId} {cap : List Value} {n : Nat} {arg : Nat → Heap → List Value → Prop} {pre : Heap → Prop}
    (aenv : Nat → List Value → Env) (I : Nat → Heap → Prop) (Ix : Exit → Heap → Prop)
    (hρ : C.ρ = none) (hf : L.ev f = some (.func (.func g) #[] cap.toArray)) (hps : allLt C.N ps = true)
    (it : IterW C.P g cap n arg pre) (hpre : ∀ k H, I k H → pre H) (hext : ∀ k H H', I k H → Ext H H' → I k H') (hextx : ∀ e H H', Ix e H → Ext H H' → Ix e H')
    (hst : ∀ k H' l r r', H.size ≤ l → H'[l]? = some (.loop r) → I k H' → I k (H'.setIfInBounds l (.loop r')))
    (hstx : ∀ e H' l r r', H.size ≤ l → H'[l]? = some (.loop r) → Ix e H' → Ix e (H'.setIfInBounds l (.loop r')))
    (hsta : ∀ k vs H' l r r', H.size ≤ l → H'[l]? = some (.loop r) → arg k H' vs → arg k (H'.setIfInBounds l (.loop r')) vs)
    (hlen : ∀ k H vs, arg k H vs → vs.length = ps.length) (h0 : I 0 H)
    (hassign : ∀ u l k H' vs, H.size ≤ l → k < n → I k H' → arg k H' vs → Wp { C with u := u, ρ := some l } assign (fun e L' ds' H1 => e = .normal ∧ ds' = [] ∧ H1 = H' ∧ Sub (aenv k vs) L') (zipEnv ps vs L) [] H')
    (hbody : ∀ u l k H' vs, H.size + 2 ≤ H'.size → k < n → I k H' → arg k H' vs → Wp { C with u := u, ρ := some l } body (bodyW H.size (I (k + 1)) Ix H') (aenv k vs) [] H')
    (hdone : ∀ H' D, H.size ≤ D → I n H' → H'[D]? = some (.deferred (some [])) → Q .normal L (D :: ds) H')
    (hstop : ∀ e H' D, H.size ≤ D → Ix e H' → H'[D]? = some (.deferred (some [])) → Q e L (D :: ds) H') : Wp C (.rangeFunc f ps.toArray assign body) Q L ds H := by
  obtain ⟨P, u, N, ρ, X, pl⟩ := C
  simp only at hρ
  subst hρ
  refine ⟨fun a w s hw k => wpIn_rangeFunc fun fn hfn => ?_⟩
  simp only at hps it
  obtain ⟨rec, hrec⟩ : ∃ rec : LoopState → Option Code → Loop, rec = fun st pe => { state := st, pending := pe, fn, tmps := a.tmps, params := ps.toArray, assign, body, defers := w.heap.size } := ⟨_, rfl⟩
  obtain ⟨W1, hW1⟩ : ∃ W1, (w.alloc (.deferred (some []))).alloc (.loop (rec .ready none)) = W1 := ⟨_, rfl⟩
  have hheap : W1.heap = (H.push (.deferred (some []))).push (.loop (rec .ready none)) := by rw [← hW1, ← hw]; rfl
  have hL1 : W1.heap[H.size + 1]? = some (.loop (rec .ready none)) := by rw [hheap, Array.getElem?_push, if_pos (by simp)]
  have hK1 : W1.heap[H.size]? = some (.deferred (some [])) := by rw [hheap, Array.getElem?_push, if_neg (by simp), Array.getElem?_push, if_pos rfl]
  have hE1 : Ext H W1.heap := by rw [hheap]; exact (Ext.push _ _).trans (Ext.push _ _)
  have hsz1 : W1.heap.size = H.size + 2 := by rw [hheap]; simp
  have hsim1 : Sim u W1 := by rw [← hW1]; exact ⟨s.os, s.tape, s.output⟩
  have hev : a.eval f = .func (.func g) #[] cap.toArray := k.ev hf
  have hit := it (H.size + 1)
    (fun k H' => I k H' ∧ H'[H.size + 1]? = some (.loop (rec .ready none)) ∧ H'[H.size]? = some (.deferred (some [])))
    (fun H' => ∃ e c, ((e = .ret ∧ c = .ret) ∨ ∃ id, e = .exit id ∧ c = .exit id) ∧ Ix e H' ∧ H'[H.size + 1]? = some (.loop (rec .done (some c))) ∧ H'[H.size]? = some (.deferred (some [])))
    W1.heap (fun k H' h => hpre k H' h.1)
    (fun k A B h e => ⟨hext _ _ _ h.1 e, e.blk h.2.1, e.blk h.2.2⟩)
    (fun A B h e => by obtain ⟨x, c, hx, h1, h2, h3⟩ := h; exact ⟨x, c, hx, hextx _ _ _ h1 e, e.blk h2, e.blk h3⟩)
    ?_ ⟨hext _ _ _ h0 hE1, hL1, hK1⟩
  · refine ⟨w.heap.size + 1, [{ target := .collected w.heap.size, args := #[] }], W1, { target := .fn (.func g) cap.toArray, args := #[.func (.yield (w.heap.size + 1)) #[] #[]] }, W1, g,
      (.func (.yield (w.heap.size + 1)) #[] #[] :: cap).toArray, W1, ?_, ?_, ?_, ?_, fun e => (by cases e), ?_⟩
    · rw [← hW1, hrec]; exact run_enterLoop_outer _ _ _ _ _
    · simp only [resolve, hev]
      simp [Deferred.ofValue, Act.eval, Sem.run]
    · intro f' _; trivial
    · simp only [invoke]
      rw [show (#[Value.func (.yield (w.heap.size + 1)) #[] #[]] ++ cap.toArray : Array Value) = (.func (.yield (w.heap.size + 1)) #[] #[] :: cap).toArray from by apply Array.ext'; simp]
      exact hit.can _ _
    · rw [hw]
      refine callsIn_wide (n := 0 - 1) |>.2 ((hit.run W1 rfl).mono ?_)
      rintro e w' ⟨v, rfl, s', hp⟩
      have hs' : Sim u w' := ⟨s'.os.trans hsim1.os, s'.tape.trans hsim1.tape, s'.output.trans hsim1.output⟩
      have hkn : Knows N L (H.size :: ds) { a with defers := [{ target := .collected H.size, args := #[] }] ++ a.defers } :=
        ⟨k.size, by show _ :: a.defers = _; rw [k.defers]; rfl, k.get⟩
      rcases hp with ⟨hi, hl, hk⟩ | ⟨x, c, hx, hi, hl, hk⟩
      · refine ⟨none, w'.putObj (H.size + 1) (.loop { rec .ready none with state := .exhausted }), ?_, ?_⟩
        · have := run_endLoop (P := P) hl (by rw [hrec]; simp)
          rw [this, hrec]
        · refine ⟨⟨hs'.os, hs'.tape, hs'.output⟩, L, H.size :: ds, hkn, hdone _ _ (Nat.le_refl _) (hst _ _ _ _ _ (by omega) hl hi) ?_⟩
          show (w'.heap.setIfInBounds (H.size + 1) _)[H.size]? = _
          rw [Array.getElem?_setIfInBounds_ne (by omega)]; exact hk
      · refine ⟨some c, w'.putObj (H.size + 1) (.loop { rec .done (some c) with state := .exhausted }), ?_, ?_⟩
        · have := run_endLoop (P := P) hl (by rw [hrec]; simp)
          rw [this, hrec]
        · have hq := hstop x (w'.heap.setIfInBounds (H.size + 1) (.loop { rec .done (some c) with state := .exhausted })) H.size (Nat.le_refl _) (hstx _ _ _ _ _ (by omega) hl hi)
            (by rw [Array.getElem?_setIfInBounds_ne (by omega)]; exact hk)
          rcases hx with ⟨rfl, rfl⟩ | ⟨id, rfl, rfl⟩
          · exact wpIn_ret ⟨⟨hs'.os, hs'.tape, hs'.output⟩, L, H.size :: ds, hkn, hq⟩
          · exact wpIn_exit ⟨⟨hs'.os, hs'.tape, hs'.output⟩, L, H.size :: ds, hkn, hq⟩
  · intro j H' vs hj ⟨hi, hl, hk⟩ harg
    refine ⟨fun w1 hw1 => ?_⟩
    subst hw1
    have hlt : H.size + 1 < w1.heap.size := (Array.getElem?_eq_some_iff.1 hl).1
    have hsl : (vs.toArray).size = ps.toArray.size := by simpa using hlen _ _ _ harg
    have hy := run_yield (P := P) (args := vs.toArray) hl (by rw [hrec]; exact hsl)
    rw [hrec] at hy
    refine ⟨fn, _, assign, body, hy, roundIn_of_wpIn (F := Fence.wide) trivial ?_⟩
    have hzip : ((ps.toArray.zip vs.toArray).foldl (fun tmps (t, a) => tmps.setIfInBounds t a) a.tmps) = ((ps.zip vs).foldl (fun t (p, v) => t.setIfInBounds p v) a.tmps) := by
      rw [List.zip_toArray, List.foldl_toArray]
    simp only [hzip]
    have hkz : Knows N (zipEnv ps vs L) [] { tmps := (ps.zip vs).foldl (fun t (p, v) => t.setIfInBounds p v) a.tmps, defers := [] } :=
      knows_zip (allLt_spec hps) ⟨k.size, rfl, k.get⟩
    have ha := (hassign w1 (H.size + 1) j w1.heap vs (by omega) hj hi harg).out { tmps := (ps.zip vs).foldl (fun t (p, v) => t.setIfInBounds p v) a.tmps, defers := [] } w1 (Sim.refl w1) rfl hkz
    refine wpIn_mono ha ?_
    rintro e a1 w2 ⟨hs2, L', ds', hk', rfl, rfl, hh, hsub⟩
    simp only [Exit.then]
    have hl2 : w2.heap[H.size + 1]? = some (.loop (rec .ready none)) := by rw [hh]; exact hl
    have hk2 : w2.heap[H.size]? = some (.deferred (some [])) := by rw [hh]; exact hk
    refine ⟨_, run_beginRound hl2 (by rw [hrec]), ?_⟩
    have hi3 : I j (w2.putObj (H.size + 1) (.loop { rec .ready none with state := .busy })).heap := hst _ _ _ _ _ (by omega) hl2 (by rw [hh]; exact hi)
    have harg3 : arg j (w2.putObj (H.size + 1) (.loop { rec .ready none with state := .busy })).heap vs := hsta _ _ _ _ _ _ (by omega) hl2 (by rw [hh]; exact harg)
    have hl3 : (w2.putObj (H.size + 1) (.loop { rec .ready none with state := .busy })).heap[H.size + 1]? = some (.loop { rec .ready none with state := .busy }) := World.putObj_heap_same (Array.getElem?_eq_some_iff.1 hl2).1
    have hk3 : (w2.putObj (H.size + 1) (.loop { rec .ready none with state := .busy })).heap[H.size]? = some (.deferred (some [])) := (World.putObj_heap_other (by omega)).trans hk2
    have hb := (hbody w1 (H.size + 1) j _ vs (by have := (Array.getElem?_eq_some_iff.1 hl3).1; omega) hj hi3 harg3).out a1 (w2.putObj (H.size + 1) (.loop { rec .ready none with state := .busy })) ⟨hs2.os, hs2.tape, hs2.output⟩ rfl (hk'.weaken hsub.mem)
    refine wpIn_mono hb ?_
    have hfin : ∀ (w4 : World), Pair H.size (w2.putObj (H.size + 1) (.loop { rec .ready none with state := .busy })).heap w4.heap →
        w4.heap[H.size + 1]? = some (.loop { rec .ready none with state := .busy }) ∧ w4.heap[H.size]? = some (.deferred (some [])) := fun w4 hA =>
      ⟨(hA _ (by omega) (by omega)).trans hl3, (hA _ (by omega) (by omega)).trans hk3⟩
    rintro e a4 w4 ⟨hs4, L4, ds4, hk4, hq⟩
    cases e with
    | normal =>
      obtain ⟨rfl, hA, hI⟩ := hq
      obtain ⟨hl4, hd4⟩ := hfin w4 hA
      have hend := run_endRound (P := P) none hl4
      refine ⟨_, _, hend, _, rfl, ⟨hs4.os, hs4.tape, hs4.output⟩, .inl ⟨rfl, hst _ _ _ _ _ (by omega) hl4 hI, ?_, ?_⟩⟩
      · have := World.putObj_heap_same (w := w4) (r := H.size + 1) (o := .loop { rec .ready none with state := .ready, pending := none }) (Array.getElem?_eq_some_iff.1 hl4).1
        rw [hrec] at this ⊢
        exact this
      · exact (World.putObj_heap_other (by omega)).trans hd4
    | ret =>
      obtain ⟨rfl, hA, hI⟩ := hq
      obtain ⟨hl4, hd4⟩ := hfin w4 hA
      have hend := run_endRound (P := P) (some .ret) hl4
      refine ⟨_, _, hend, _, rfl, ⟨hs4.os, hs4.tape, hs4.output⟩, .inr ⟨rfl, .ret, .ret, .inl ⟨rfl, rfl⟩, hstx _ _ _ _ _ (by omega) hl4 hI, ?_, ?_⟩⟩
      · have := World.putObj_heap_same (w := w4) (r := H.size + 1) (o := .loop { rec .ready none with state := .done, pending := some .ret }) (Array.getElem?_eq_some_iff.1 hl4).1
        rw [hrec] at this ⊢
        exact this
      · exact (World.putObj_heap_other (by omega)).trans hd4
    | exit id =>
      obtain ⟨rfl, hA, hI⟩ := hq
      obtain ⟨hl4, hd4⟩ := hfin w4 hA
      have hend := run_endRound (P := P) (some (.exit id)) hl4
      refine ⟨_, _, hend, _, rfl, ⟨hs4.os, hs4.tape, hs4.output⟩, .inr ⟨rfl, .exit id, .exit id, .inr ⟨id, rfl, rfl⟩, hstx _ _ _ _ _ (by omega) hl4 hI, ?_, ?_⟩⟩
      · have := World.putObj_heap_same (w := w4) (r := H.size + 1) (o := .loop { rec .ready none with state := .done, pending := some (.exit id) }) (Array.getElem?_eq_some_iff.1 hl4).1
        rw [hrec] at this ⊢
        exact this
      · exact (World.putObj_heap_other (by omega)).trans hd4
    | _ => exact hq.elim
theorem Wp.rangeW {P : Program} {u : World} {N : Nat} {X : List Nat} {pl : List (Nat × Plan)} {f : Operand} {ps : List Nat} {assign body : Code} {Q : QPost} {L : Env} {ds : List Nat} {H : Heap} {g : FuncId} {cap : List Value} {n : Nat} {arg : Nat → Heap → List Value → Prop} {pre : Heap → Prop}
    (it : IterW P g cap n arg pre) (aenv : Nat → List Value → Env) (I : Nat → Heap → Prop) (Ix : Exit → Heap → Prop)
    (hpre : ∀ k H, I k H → pre H) (hI : ∀ k A A', I k A → Keep H.size A A' → I k A') (hIx : ∀ e A A', Ix e A → Keep H.size A A' → Ix e A')
    (hR : ∀ k A A' vs, arg k A vs → Keep H.size A A' → arg k A' vs) (hlen : ∀ k A vs, arg k A vs → vs.length = ps.length) (h0 : I 0 H)
    (hassign : ∀ u l k A vs, k < n → I k A → arg k A vs → Wp ⟨P, u, N, some l, X, pl⟩ assign (fun e L' ds' H1 => e = .normal ∧ ds' = [] ∧ H1 = A ∧ Sub (aenv k vs) L') (zipEnv ps vs L) [] A)
    (hbody : ∀ u l k A vs, H.size + 2 ≤ A.size → k < n → I k A → arg k A vs → Wp ⟨P, u, N, some l, X, pl⟩ body (bodyW H.size (I (k + 1)) Ix A) (aenv k vs) [] A)
    (hdone : ∀ A D, H.size ≤ D → I n A → A[D]? = some (.deferred (some [])) → Q .normal L (D :: ds) A)
    (hstop : ∀ e A D, H.size ≤ D → Ix e A → A[D]? = some (.deferred (some [])) → Q e L (D :: ds) A)
    (hf : L.ev f = some (.func (.func g) #[] cap.toArray) := by rfl) (hps : allLt N ps = true := by rfl) : Wp ⟨P, u, N, none, X, pl⟩ (.rangeFunc f ps.toArray assign body) Q L ds H :=
  Wp.rangeX (C := ⟨P, u, N, none, X, pl⟩) (arg := arg) (n := n) (pre := pre) aenv I Ix rfl hf hps it hpre (fun k A A' h e => hI k A A' h (.ext e)) (fun k A A' h e => hIx k A A' h (.ext e))
    (fun k A l r r' hl ho h => hI k _ _ h (.put hl ho (by intros; simp))) (fun k A l r r' hl ho h => hIx k _ _ h (.put hl ho (by intros; simp))) (fun k vs A l r r' hl ho h => hR k _ _ vs h (.put hl ho (by intros; simp))) hlen h0
    (fun u l k A vs _ hk hi h => hassign u l k A vs hk hi h) (fun u l k A vs hA hk hi h => hbody u l k A vs hA hk hi h) hdone hstop
end Go.Vc
