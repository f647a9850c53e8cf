/-
  The calculus, part 15: maps from numbers.
-/
import Derived.Test.YtaikdcnifijcoaaGreatQ09
import Derived.Maps.Keyed
import Derived.Maps.RangeRun
set_option linter.unusedVariables false
set_option linter.unusedSimpArgs false
namespace Go.Vc
open Go.MapKept (Stamped stamped_iff stamped_empty stamped_push stamped_modify)
abbrev IK (k : Int) : Value := .int .i64 k
abbrev KV := List (Int × Value)
def i64 (k : Int) : Prop := -9223372036854775808 ≤ k ∧ k ≤ 9223372036854775807
theorem i64_wf {k : Int} (h : i64 k) : (Lit.int .i64 k).wf = true := by
  simp [Lit.wf, IntKind.min, IntKind.max, IntKind.signed, IntKind.bits]
  unfold i64 at h
  omega
/-- Block b is a map of these entries, in the order in which their keys came. -/
structure MapI (H : Heap) (b : Nat) (l : KV) : Prop where
  at_ : ∃ es clock, H[b]? = some (.map es clock) ∧ Stamped es clock ∧ es.toList.map (fun e => (e.key, e.val)) = l.map fun p => (IK p.1, p.2)
  wf : ∀ p ∈ l, i64 p.1
def mget : KV → Int → Option Value
  | [], _ => none
  | p :: r, k => if p.1 = k then some p.2 else mget r k
def mput : KV → Int → Value → KV
  | [], k, v => [(k, v)]
  | p :: r, k, v => if p.1 = k then (k, v) :: r else p :: mput r k v
theorem MapI.ext {H H' : Heap} {b : Nat} {l : KV} (h : MapI H b l) (x : Ext H H') : MapI H' b l := by
  obtain ⟨es, c, h1, h2, h3⟩ := h.at_
  exact ⟨⟨es, c, (x.get b (Array.getElem?_eq_some_iff.1 h1).1).trans h1, h2, h3⟩, h.wf⟩
theorem MapI.chg {S : Nat → Prop} {H H' : Heap} {b : Nat} {l : KV} (h : MapI H b l) (c : Chg S H H') (hs : ¬ S b) : MapI H' b l := by
  obtain ⟨es, k, h1, h2, h3⟩ := h.at_
  exact ⟨⟨es, k, (c.get b (Array.getElem?_eq_some_iff.1 h1).1 hs).trans h1, h2, h3⟩, h.wf⟩
theorem MapI.lt {H : Heap} {b : Nat} {l : KV} (h : MapI H b l) : b < H.size := by
  obtain ⟨es, k, h1, _⟩ := h.at_
  exact (Array.getElem?_eq_some_iff.1 h1).1
/-- A map is none, or a block. -/
theorem MapI.keys {H : Heap} {b : Nat} {l : KV} (h : MapI H b l) : (l.map (·.1)).Nodup := by
  obtain ⟨es, k, h1, ⟨_, _, h2⟩, h3⟩ := h.at_
  have e : es.toList.map (·.key) = (l.map (·.1)).map IK := by
    have := congrArg (List.map Prod.fst) h3
    simpa [List.map_map, Function.comp_def] using this
  rw [e] at h2
  exact (List.pairwise_map.1 h2).imp fun hne he => hne (by rw [he])
theorem kv_each {l : KV} {es : Array MapEntry} (h3 : es.toList.map (fun e => (e.key, e.val)) = l.map fun p => (IK p.1, p.2)) {i : Nat} (e : MapEntry) (he : es.toList[i]? = some e) : ∃ p, l[i]? = some p ∧ e.key = IK p.1 ∧ e.val = p.2 := by
  have := congrArg (fun x => x[i]?) h3
  simp only [List.getElem?_map, he, Option.map_some] at this
  cases hp : l[i]? with
  | none => rw [hp] at this; cases this
  | some p =>
    rw [hp] at this
    simp only [Option.map_some, Option.some.injEq, Prod.mk.injEq] at this
    exact ⟨p, rfl, this.1, this.2⟩
theorem IK_inj {a b : Int} (h : IK a = IK b) : a = b := by
  simpa using h
theorem mget_some : ∀ {l : KV} {i : Nat} {p : Int × Value}, (l.map (·.1)).Nodup → l[i]? = some p → mget l p.1 = some p.2
  | [], i, p, _, h => by simp at h
  | q :: r, 0, p, _, h => by
    simp only [List.getElem?_cons_zero, Option.some.injEq] at h
    subst h
    simp [mget]
  | q :: r, i + 1, p, hn, h => by
    simp only [List.getElem?_cons_succ] at h
    simp only [List.map_cons, List.nodup_cons] at hn
    have hm : p.1 ∈ r.map (·.1) := List.mem_map.2 ⟨p, List.mem_of_getElem? h, rfl⟩
    have hne : q.1 ≠ p.1 := fun e => hn.1 (e ▸ hm)
    simp only [mget, if_neg hne]
    exact mget_some hn.2 h
theorem mget_none : ∀ {l : KV} {k : Int}, (∀ p ∈ l, p.1 ≠ k) → mget l k = none
  | [], _, _ => rfl
  | q :: r, k, h => by
    simp only [mget, if_neg (h q List.mem_cons_self)]
    exact mget_none fun p hp => h p (List.mem_cons_of_mem _ hp)
theorem mput_none : ∀ {l : KV} {k : Int} {v : Value}, (∀ p ∈ l, p.1 ≠ k) → mput l k v = l ++ [(k, v)]
  | [], _, _, _ => rfl
  | q :: r, k, v, h => by
    simp only [mput, if_neg (h q List.mem_cons_self), List.cons_append]
    rw [mput_none fun p hp => h p (List.mem_cons_of_mem _ hp)]
theorem mput_some : ∀ {l : KV} {i : Nat} {p : Int × Value} {v : Value}, (l.map (·.1)).Nodup → l[i]? = some p → mput l p.1 v = l.set i (p.1, v)
  | [], i, p, v, _, h => by simp at h
  | q :: r, 0, p, v, _, h => by
    simp only [List.getElem?_cons_zero, Option.some.injEq] at h
    subst h
    simp [mput]
  | q :: r, i + 1, p, v, hn, h => by
    simp only [List.getElem?_cons_succ] at h
    simp only [List.map_cons, List.nodup_cons] at hn
    have hm : p.1 ∈ r.map (·.1) := List.mem_map.2 ⟨p, List.mem_of_getElem? h, rfl⟩
    have hne : q.1 ≠ p.1 := fun e => hn.1 (e ▸ hm)
    simp only [mput, if_neg hne, List.set_cons_succ]
    rw [mput_some hn.2 h]
section
variable {P : Program} [Tbl P] {w : World} {b kt : Nat} {l : KV} {sz bt : Nat} {z : Value}
theorem keyed64 (hk : ty P kt = some ⟨.int .i64, sz, bt, z⟩) : Go.Maps.Keyed P kt := Go.Maps.int_keyed (Tbl.ok.find hk).1
theorem keyOf64 (hk : ty P kt = some ⟨.int .i64, sz, bt, z⟩) {k : Int} (h : i64 k) : keyOf P kt (IK k) = some (.int .i64 k) := Go.Maps.keyOf_int_mk (Tbl.ok.find hk).1 (i64_wf h)
theorem run_find {es : Array MapEntry} {clock : Nat} (hk : ty P kt = some ⟨.int .i64, sz, bt, z⟩) (hs : Stamped es clock) (h3 : es.toList.map (fun e => (e.key, e.val)) = l.map fun p => (IK p.1, p.2)) (hw : ∀ p ∈ l, i64 p.1) {k : Int} (h : i64 k) :
    ((Instr.findKey kt (IK k) es.toList).run P w = .ok none w ∧ ∀ p ∈ l, p.1 ≠ k) ∨ ∃ j p e, (Instr.findKey kt (IK k) es.toList).run P w = .ok (some (j, p.2)) w ∧ es.toList[j]? = some e ∧ l[j]? = some p ∧ p.1 = k ∧ e.key = IK k := by
  have hkeys : ∀ e ∈ es.toList, ∃ x, keyOf P kt e.key = some x := fun e he => by
    obtain ⟨i, hi⟩ := List.getElem?_of_mem he
    obtain ⟨p, hp, e1, _⟩ := kv_each h3 e hi
    exact ⟨_, by rw [e1]; exact keyOf64 hk (hw p (List.mem_of_getElem? hp))⟩
  rcases (keyed64 hk).find w (keyOf64 hk h) es.toList hkeys with ⟨h1, h2⟩ | ⟨j, e, h1, h2, h4⟩
  · refine .inl ⟨h1, fun p hp e => ?_⟩
    obtain ⟨i, hi⟩ := List.getElem?_of_mem hp
    have hlen : es.toList.length = l.length := by simpa using congrArg List.length h3
    have hlt := (List.getElem?_eq_some_iff.1 hi).1
    have hei : es.toList[i]? = some es.toList[i] := List.getElem?_eq_getElem (by omega)
    obtain ⟨q, hq, e1, _⟩ := kv_each h3 _ hei
    rw [hi] at hq
    cases hq
    exact h2 _ (List.getElem_mem _) (by rw [e1, e])
  · obtain ⟨p, hp, e1, e2⟩ := kv_each h3 e h2
    exact .inr ⟨j, p, e, by rw [h1, e2], h2, hp, IK_inj (by rw [← e1, h4]), h4⟩
theorem run_lookupI {mt et sz' bt' sz'' bt'' : Nat} {z' z'' : Value} {d : TypeDesc} {ok : Bool} (hm : MapI w.heap b l) (ht : ty P mt = some ⟨.map kt et, sz', bt', z'⟩) (hk : ty P kt = some ⟨.int .i64, sz, bt, z⟩) (he : ty P et = some ⟨d, sz'', bt'', z''⟩) {k : Int} (h : i64 k) :
    (Instr.lookup mt (.map (some b)) (IK k) ok).run P w = .ok (if ok then .tuple #[(mget l k).getD z'', .bool (mget l k).isSome] else (mget l k).getD z'') w := by
  obtain ⟨es, clock, hb, hs, h3⟩ := hm.at_
  have hnd := hm.keys
  have hu := (Tbl.ok.find ht).1
  have hchk := (keyed64 hk).check w es.isEmpty (keyOf64 hk h)
  simp only [Instr.lookup, Sem.run_bind, run_underlying hu, Result.andThen, MapKept.run_getObj_map hb, hchk, Sem.run_pure]
  rcases run_find (w := w) hk hs h3 hm.wf h with ⟨h1, h2⟩ | ⟨j, p, e, h1, _, h2, rfl, _⟩
  · rw [h1]
    simp only [Sem.run_bind, ty.zero he, Result.andThen, Sem.run_pure, mget_none h2]
    cases ok <;> rfl
  · rw [h1]
    simp only [Sem.run_pure, mget_some hnd h2, Result.andThen]
    cases ok <;> rfl
theorem run_updateI {mt et sz' bt' : Nat} {z' : Value} (hm : MapI w.heap b l) (ht : ty P mt = some ⟨.map kt et, sz', bt', z'⟩) (hk : ty P kt = some ⟨.int .i64, sz, bt, z⟩) {k : Int} {v : Value} (h : i64 k) :
    ∃ w', (Instr.mapUpdate mt (.map (some b)) (IK k) v).run P w = .ok () w' ∧ Sim w w' ∧ MapI w'.heap b (mput l k v) ∧ Chg (fun c => c = b) w.heap w'.heap := by
  obtain ⟨es, clock, hb, hs, h3⟩ := hm.at_
  have hnd := hm.keys
  have hu := (Tbl.ok.find ht).1
  have hchk := (keyed64 hk).check w false (keyOf64 hk h)
  have hlt := hm.lt
  have hfin : ∀ es' c', Chg (fun c => c = b) w.heap (Go.ChangeMaps.setBlock w b (.map es' c')).heap := fun es' c' =>
    ⟨by simp [Go.ChangeMaps.setBlock], fun i _ hi => Go.ChangeMaps.heap_setBlock_other hb _ (fun e => hi (by rw [e]))⟩
  simp only [Instr.mapUpdate, Sem.run_bind, run_underlying hu, Result.andThen, MapKept.run_getObj_map hb, hchk]
  rcases run_find (w := w) hk hs h3 hm.wf h with ⟨h1, h2⟩ | ⟨j, p, e, h1, h4, h2, rfl, h5⟩
  · rw [h1]
    simp only [MapKept.run_setObj_map (P := P) _ hb]
    refine ⟨_, rfl, ⟨rfl, rfl, rfl⟩, ⟨⟨_, _, Go.ChangeMaps.heap_setBlock_same hb _, stamped_push hs fun x hx e => ?_, ?_⟩, ?_⟩, hfin _ _⟩
    · obtain ⟨i, hi⟩ := List.getElem?_of_mem hx
      obtain ⟨q, hq, e1, _⟩ := kv_each h3 x hi
      exact h2 q (List.mem_of_getElem? hq) (IK_inj (by rw [← e1, e]))
    · rw [mput_none h2, Array.toList_push, List.map_append, List.map_append, h3]; rfl
    · rw [mput_none h2]
      intro q hq
      rcases List.mem_append.1 hq with hq | hq
      · exact hm.wf q hq
      · rw [List.mem_singleton.1 hq]; exact h
  · rw [h1]
    have hej : es[j]? = some e := by rw [← Array.getElem?_toList]; exact h4
    have hkk : ((es[j]?.map (·.key)).getD (IK p.1)) = IK p.1 := by rw [hej]; simpa using h5
    simp only [hkk, Sem.run_bind, (keyed64 hk).stays w (keyOf64 hk h), Result.andThen, MapKept.run_setObj_map (P := P) _ hb]
    refine ⟨_, rfl, ⟨rfl, rfl, rfl⟩, ⟨⟨_, _, Go.ChangeMaps.heap_setBlock_same hb _, stamped_modify hs j _ (fun _ _ => rfl) ?_, ?_⟩, ?_⟩, hfin _ _⟩
    · intro x hx hxj
      rw [hej] at hxj
      cases hxj
      exact h5.symm
    · rw [mput_some hnd h2]
      refine List.ext_getElem? fun i => ?_
      have h3i := congrArg (fun x => x[i]?) h3
      simp only [List.getElem?_map] at h3i ⊢
      rw [Array.getElem?_toList, Array.getElem?_modify, List.getElem?_set]
      by_cases hij : j = i
      · subst hij
        have hjl := (List.getElem?_eq_some_iff.1 h2).1
        simp [hej, hjl]
      · simp only [if_neg hij]
        rw [← Array.getElem?_toList]; exact h3i
    · rw [mput_some hnd h2]
      intro q hq
      rcases List.mem_or_eq_of_mem_set hq with hq | rfl
      · exact hm.wf q hq
      · exact hm.wf p (List.mem_of_getElem? h2)
end
/-! ### Ranges over functions whose iterators hold objects that are no cells -/
structure CalmH (B : Nat) (A A' : Heap) : Prop where
  size : A.size ≤ A'.size
  get : ∀ b o, B ≤ b → A[b]? = some o → (∀ c e z, o ≠ .cells c e z) → A'[b]? = some o
theorem CalmH.trans {B : Nat} {A D E : Heap} (h : CalmH B A D) (k : CalmH B D E) : CalmH B A E := ⟨Nat.le_trans h.size k.size, fun b o hb ho hn => k.get b o hb (h.get b o hb ho hn) hn⟩
theorem Ext.calm {B : Nat} {A D : Heap} (h : Ext A D) : CalmH B A D := ⟨h.size, fun b o _ ho _ => (h.get b (Array.getElem?_eq_some_iff.1 ho).1).trans ho⟩
theorem Chg.calm {S : Nat → Prop} {B : Nat} {A D : Heap} (c : Chg S A D) (h : ∀ b, S b → B ≤ b → ∀ o, A[b]? = some o → ∃ x e z, o = .cells x e z) : CalmH B A D :=
  ⟨c.size, fun b o hb ho hn => (c.get b (Array.getElem?_eq_some_iff.1 ho).1 fun hs => by obtain ⟨x, e, z, rfl⟩ := h b hs hb o ho; exact hn _ _ _ rfl).trans ho⟩
theorem Keep.low {B B' : Nat} {A A' : Heap} (k : Keep B A A') (h : B' ≤ B) : Keep B' A A' := by
  cases k with
  | ext e => exact .ext e
  | put hl ho hn => exact .put (by omega) ho hn
theorem Keep.blk {B b : Nat} {A A' : Heap} {o : Obj} (k : Keep B A A') (h : A[b]? = some o) (hb : b < B) : A'[b]? = some o := by
  cases k with
  | ext e => exact (e.get b (Array.getElem?_eq_some_iff.1 h).1).trans h
  | put hl ho hn => rw [Array.getElem?_setIfInBounds_ne (by omega)]; exact h
theorem Keep.turn {B : Nat} {S : Nat → Prop} {H A A' : Heap} (k : Keep B A A') (c : Chg S H A) (hB : H.size ≤ B) : Chg S H A' := by
  cases k with
  | ext e => exact c.trans (e.chg S)
  | put hl ho hn =>
    refine ⟨by simpa using c.size, fun b hb hs => ?_⟩
    rw [Array.getElem?_setIfInBounds_ne (by omega)]
    exact c.get b hb hs
/-- An iterator's word: from state i0, a step at a time, to a state that is an end. -/
def IterG (P : Program) (g : FuncId) (cap : List Value) {ι : Type} (i0 : ι) (step : ι → List Value → ι → Prop) (fin : ι → Prop) (pre : Heap → Prop) : Prop :=
  ∀ (l : Nat) (J : ι → Heap → Prop) (Jx : Heap → Prop) (H : Heap),
    (∀ i A, J i A → pre A) → (∀ i A A', J i A → Keep H.size A A' → J i A') → (∀ A A', Jx A → Keep H.size A A' → Jx A') →
    (∀ i i' A vs, step i vs i' → J i A → YieldH P l vs A fun v A' => CalmH H.size A A' ∧ ((v = .bool true ∧ J i' A') ∨ (v = .bool false ∧ Jx A'))) →
    J i0 H → CallsH P g (.func (.yield l) #[] #[] :: cap) H fun _ A' => (∃ i, fin i ∧ J i A') ∨ Jx A'
def bodyG (B : Nat) (I : Heap → Prop) (Ix : Exit → Heap → Prop) (H : Heap) : QPost
  | .normal, _, ds, H' => ds = [] ∧ CalmH B H H' ∧ I H'
  | .ret, _, ds, H' => ds = [] ∧ CalmH B H H' ∧ Ix .ret H'
  | .exit id, _, ds, H' => ds = [] ∧ CalmH B H H' ∧ Ix (.exit id) H'
  | _, _, _, _ => False
theorem bodyG_n {B : Nat} {I : Heap → Prop} {Ix : Exit → Heap → Prop} {H H' : Heap} {L : Env} (ha : CalmH B H H') (h : I H') : bodyG B I Ix H .normal L [] H' := ⟨rfl, ha, h⟩
/-- A range over a function whose iterator holds objects that are no cells: the body may turn cells, and make what it likes. -/
theorem Wp.rangeY {C : Cx} {f : Operand} {ps : List Nat} {assign body : Code} {Q : QPost} {L : Env} {ds : List Nat} {H : Heap} {g : FuncId} {cap : List Value} {ι : Type} {i0 : ι} {step : ι → List Value → ι → Prop} {fin : ι → Prop} {pre : Heap → Prop}
    (aenv : List Value → Env) (I : ι → Heap → Prop) (Ix : Exit → Heap → Prop)
    (hρ : C.ρ = none) (hf : L.ev f = some (.func (.func g) #[] cap.toArray)) (hps : allLt C.N ps = true)
    (it : IterG C.P g cap i0 step fin pre) (hpre : ∀ k H, I k H → pre H) (hext : ∀ k A A', I k A → Keep H.size A A' → I k A') (hextx : ∀ e A A', Ix e A → Keep H.size A A' → Ix e A')
    (hlen : ∀ k vs k', step k vs k' → vs.length = ps.length) (h0 : I i0 H)
    (hassign : ∀ u l k k' H' vs, step k vs k' → I k H' → Wp { C with u := u, ρ := some l } assign (fun e L' ds' H1 => e = .normal ∧ ds' = [] ∧ H1 = H' ∧ Sub (aenv vs) L') (zipEnv ps vs L) [] H')
    (hbody : ∀ u l k k' H' vs, H.size + 2 ≤ H'.size → step k vs k' → I k H' → Wp { C with u := u, ρ := some l } body (bodyG H.size (I k') Ix H') (aenv vs) [] H')
    (hdone : ∀ k H' D, H.size ≤ D → fin k → I k H' → H'[D]? = some (.deferred (some [])) → Q .normal L (D :: ds) H')
    (hstop : ∀ e H' D, H.size ≤ D → Ix e H' → H'[D]? = some (.deferred (some [])) → Q e L (D :: ds) H') : Wp C (.rangeFunc f ps.toArray assign body) Q L ds H := by
  obtain ⟨P, u, N, ρ, X, pl⟩ := C
  simp only at hρ
  subst hρ
  have hst : ∀ k A l r r', H.size ≤ l → A[l]? = some (.loop r) → I k A → I k (A.setIfInBounds l (.loop r')) := fun k A l r r' hl ho h => hext k _ _ h (.put hl ho (by intros; simp))
  have hstx : ∀ e A l r r', H.size ≤ l → A[l]? = some (.loop r) → Ix e A → Ix e (A.setIfInBounds l (.loop r')) := fun k A l r r' hl ho h => hextx k _ _ h (.put hl ho (by intros; simp))
  refine ⟨fun a w s hw k => wpIn_rangeFunc fun fn hfn => ?_⟩
  simp only at hps it
  obtain ⟨rec, hrec⟩ : ∃ rec : LoopState → Option Code → Loop, rec = fun st pe => { state := st, pending := pe, fn, tmps := a.tmps, params := ps.toArray, assign, body, defers := w.heap.size } := ⟨_, rfl⟩
  obtain ⟨W1, hW1⟩ : ∃ W1, (w.alloc (.deferred (some []))).alloc (.loop (rec .ready none)) = W1 := ⟨_, rfl⟩
  have hheap : W1.heap = (H.push (.deferred (some []))).push (.loop (rec .ready none)) := by rw [← hW1, ← hw]; rfl
  have hL1 : W1.heap[H.size + 1]? = some (.loop (rec .ready none)) := by rw [hheap, Array.getElem?_push, if_pos (by simp)]
  have hK1 : W1.heap[H.size]? = some (.deferred (some [])) := by rw [hheap, Array.getElem?_push, if_neg (by simp), Array.getElem?_push, if_pos rfl]
  have hE1 : Ext H W1.heap := by rw [hheap]; exact (Ext.push _ _).trans (Ext.push _ _)
  have hsz1 : W1.heap.size = H.size + 2 := by rw [hheap]; simp
  have hsim1 : Sim u W1 := by rw [← hW1]; exact ⟨s.os, s.tape, s.output⟩
  have hev : a.eval f = .func (.func g) #[] cap.toArray := k.ev hf
  have hit := it (H.size + 1)
    (fun k H' => I k H' ∧ H'[H.size + 1]? = some (.loop (rec .ready none)) ∧ H'[H.size]? = some (.deferred (some [])))
    (fun H' => ∃ e c, ((e = .ret ∧ c = .ret) ∨ ∃ id, e = .exit id ∧ c = .exit id) ∧ Ix e H' ∧ H'[H.size + 1]? = some (.loop (rec .done (some c))) ∧ H'[H.size]? = some (.deferred (some [])))
    W1.heap (fun k H' h => hpre k H' h.1)
    (fun k A B h e => ⟨hext _ _ _ h.1 (e.low (by omega)), e.blk h.2.1 (by omega), e.blk h.2.2 (by omega)⟩)
    (fun A B h e => by obtain ⟨x, c, hx, h1, h2, h3⟩ := h; exact ⟨x, c, hx, hextx _ _ _ h1 (e.low (by omega)), e.blk h2 (by omega), e.blk h3 (by omega)⟩)
    ?_ ⟨hext _ _ _ h0 (.ext hE1), hL1, hK1⟩
  · refine ⟨w.heap.size + 1, [{ target := .collected w.heap.size, args := #[] }], W1, { target := .fn (.func g) cap.toArray, args := #[.func (.yield (w.heap.size + 1)) #[] #[]] }, W1, g,
      (.func (.yield (w.heap.size + 1)) #[] #[] :: cap).toArray, W1, ?_, ?_, ?_, ?_, fun e => (by cases e), ?_⟩
    · rw [← hW1, hrec]; exact run_enterLoop_outer _ _ _ _ _
    · simp only [resolve, hev]
      simp [Deferred.ofValue, Act.eval, Sem.run]
    · intro f' _; trivial
    · simp only [invoke]
      rw [show (#[Value.func (.yield (w.heap.size + 1)) #[] #[]] ++ cap.toArray : Array Value) = (.func (.yield (w.heap.size + 1)) #[] #[] :: cap).toArray from by apply Array.ext'; simp]
      exact hit.can _ _
    · rw [hw]
      refine callsIn_wide (n := 0 - 1) |>.2 ((hit.run W1 rfl).mono ?_)
      rintro e w' ⟨v, rfl, s', hp⟩
      have hs' : Sim u w' := ⟨s'.os.trans hsim1.os, s'.tape.trans hsim1.tape, s'.output.trans hsim1.output⟩
      have hkn : Knows N L (H.size :: ds) { a with defers := [{ target := .collected H.size, args := #[] }] ++ a.defers } :=
        ⟨k.size, by show _ :: a.defers = _; rw [k.defers]; rfl, k.get⟩
      rcases hp with ⟨j, hfj, hi, hl, hk⟩ | ⟨x, c, hx, hi, hl, hk⟩
      · refine ⟨none, w'.putObj (H.size + 1) (.loop { rec .ready none with state := .exhausted }), ?_, ?_⟩
        · have := run_endLoop (P := P) hl (by rw [hrec]; simp)
          rw [this, hrec]
        · refine ⟨⟨hs'.os, hs'.tape, hs'.output⟩, L, H.size :: ds, hkn, hdone _ _ _ (Nat.le_refl _) hfj (hst _ _ _ _ _ (by omega) hl hi) ?_⟩
          show (w'.heap.setIfInBounds (H.size + 1) _)[H.size]? = _
          rw [Array.getElem?_setIfInBounds_ne (by omega)]; exact hk
      · refine ⟨some c, w'.putObj (H.size + 1) (.loop { rec .done (some c) with state := .exhausted }), ?_, ?_⟩
        · have := run_endLoop (P := P) hl (by rw [hrec]; simp)
          rw [this, hrec]
        · have hq := hstop x (w'.heap.setIfInBounds (H.size + 1) (.loop { rec .done (some c) with state := .exhausted })) H.size (Nat.le_refl _) (hstx _ _ _ _ _ (by omega) hl hi)
            (by rw [Array.getElem?_setIfInBounds_ne (by omega)]; exact hk)
          rcases hx with ⟨rfl, rfl⟩ | ⟨id, rfl, rfl⟩
          · exact wpIn_ret ⟨⟨hs'.os, hs'.tape, hs'.output⟩, L, H.size :: ds, hkn, hq⟩
          · exact wpIn_exit ⟨⟨hs'.os, hs'.tape, hs'.output⟩, L, H.size :: ds, hkn, hq⟩
  · intro j j' H' vs hj ⟨hi, hl, hk⟩
    refine ⟨fun w1 hw1 => ?_⟩
    subst hw1
    have hlt : H.size + 1 < w1.heap.size := (Array.getElem?_eq_some_iff.1 hl).1
    have hsl : (vs.toArray).size = ps.toArray.size := by simpa using hlen _ _ _ hj
    have hy := run_yield (P := P) (args := vs.toArray) hl (by rw [hrec]; exact hsl)
    rw [hrec] at hy
    refine ⟨fn, _, assign, body, hy, roundIn_of_wpIn (F := Fence.wide) trivial ?_⟩
    have hzip : ((ps.toArray.zip vs.toArray).foldl (fun tmps (t, a) => tmps.setIfInBounds t a) a.tmps) = ((ps.zip vs).foldl (fun t (p, v) => t.setIfInBounds p v) a.tmps) := by
      rw [List.zip_toArray, List.foldl_toArray]
    simp only [hzip]
    have hkz : Knows N (zipEnv ps vs L) [] { tmps := (ps.zip vs).foldl (fun t (p, v) => t.setIfInBounds p v) a.tmps, defers := [] } :=
      knows_zip (allLt_spec hps) ⟨k.size, rfl, k.get⟩
    have ha := (hassign w1 (H.size + 1) j j' w1.heap vs hj hi).out { tmps := (ps.zip vs).foldl (fun t (p, v) => t.setIfInBounds p v) a.tmps, defers := [] } w1 (Sim.refl w1) rfl hkz
    refine wpIn_mono ha ?_
    rintro e a1 w2 ⟨hs2, L', ds', hk', rfl, rfl, hh, hsub⟩
    simp only [Exit.then]
    have hl2 : w2.heap[H.size + 1]? = some (.loop (rec .ready none)) := by rw [hh]; exact hl
    have hk2 : w2.heap[H.size]? = some (.deferred (some [])) := by rw [hh]; exact hk
    refine ⟨_, run_beginRound hl2 (by rw [hrec]), ?_⟩
    have hi3 : I j (w2.putObj (H.size + 1) (.loop { rec .ready none with state := .busy })).heap := hst _ _ _ _ _ (by omega) hl2 (by rw [hh]; exact hi)
    have hl3 : (w2.putObj (H.size + 1) (.loop { rec .ready none with state := .busy })).heap[H.size + 1]? = some (.loop { rec .ready none with state := .busy }) := World.putObj_heap_same (Array.getElem?_eq_some_iff.1 hl2).1
    have hk3 : (w2.putObj (H.size + 1) (.loop { rec .ready none with state := .busy })).heap[H.size]? = some (.deferred (some [])) := (World.putObj_heap_other (by omega)).trans hk2
    have hb := (hbody w1 (H.size + 1) j j' _ vs (by have := (Array.getElem?_eq_some_iff.1 hl3).1; omega) hj hi3).out a1 (w2.putObj (H.size + 1) (.loop { rec .ready none with state := .busy })) ⟨hs2.os, hs2.tape, hs2.output⟩ rfl (hk'.weaken hsub.mem)
    refine wpIn_mono hb ?_
    have hfin : ∀ (w4 : World), CalmH H.size (w2.putObj (H.size + 1) (.loop { rec .ready none with state := .busy })).heap w4.heap →
        w4.heap[H.size + 1]? = some (.loop { rec .ready none with state := .busy }) ∧ w4.heap[H.size]? = some (.deferred (some [])) := fun w4 hA =>
      ⟨hA.get _ _ (by omega) hl3 (by intros; simp), hA.get _ _ (Nat.le_refl _) hk3 (by intros; simp)⟩
    have hcalm : ∀ (w4 w5 : World), CalmH H.size (w2.putObj (H.size + 1) (.loop { rec .ready none with state := .busy })).heap w4.heap → w5.heap.size = w4.heap.size → (∀ b, b ≠ H.size + 1 → w5.heap[b]? = w4.heap[b]?) → CalmH W1.heap.size w1.heap w5.heap := fun w4 w5 hA hz h5 => by
      refine ⟨?_, fun b o hb ho hn => ?_⟩
      · have h6 := hA.size
        have h7 : (w2.putObj (H.size + 1) (.loop { rec .ready none with state := .busy })).heap.size = w2.heap.size := by simp [World.putObj]
        rw [hz]; rw [h7, hh] at h6; exact h6
      · rw [h5 b (by omega)]
        refine hA.get b o (by omega) ?_ hn
        rw [World.putObj_heap_other (by omega), hh]; exact ho
    rintro e a4 w4 ⟨hs4, L4, ds4, hk4, hq⟩
    cases e with
    | normal =>
      obtain ⟨rfl, hA, hI⟩ := hq
      obtain ⟨hl4, hd4⟩ := hfin w4 hA
      have hend := run_endRound (P := P) none hl4
      refine ⟨_, _, hend, _, rfl, ⟨hs4.os, hs4.tape, hs4.output⟩, hcalm w4 _ hA (by simp [World.putObj]) (fun b hb => World.putObj_heap_other hb), .inl ⟨rfl, hst _ _ _ _ _ (by omega) hl4 hI, ?_, ?_⟩⟩
      · have := World.putObj_heap_same (w := w4) (r := H.size + 1) (o := .loop { rec .ready none with state := .ready, pending := none }) (Array.getElem?_eq_some_iff.1 hl4).1
        rw [hrec] at this ⊢
        exact this
      · exact (World.putObj_heap_other (by omega)).trans hd4
    | ret =>
      obtain ⟨rfl, hA, hI⟩ := hq
      obtain ⟨hl4, hd4⟩ := hfin w4 hA
      have hend := run_endRound (P := P) (some .ret) hl4
      refine ⟨_, _, hend, _, rfl, ⟨hs4.os, hs4.tape, hs4.output⟩, hcalm w4 _ hA (by simp [World.putObj]) (fun b hb => World.putObj_heap_other hb), .inr ⟨rfl, .ret, .ret, .inl ⟨rfl, rfl⟩, hstx _ _ _ _ _ (by omega) hl4 hI, ?_, ?_⟩⟩
      · have := World.putObj_heap_same (w := w4) (r := H.size + 1) (o := .loop { rec .ready none with state := .done, pending := some .ret }) (Array.getElem?_eq_some_iff.1 hl4).1
        rw [hrec] at this ⊢
        exact this
      · exact (World.putObj_heap_other (by omega)).trans hd4
    | exit id =>
      obtain ⟨rfl, hA, hI⟩ := hq
      obtain ⟨hl4, hd4⟩ := hfin w4 hA
      have hend := run_endRound (P := P) (some (.exit id)) hl4
      refine ⟨_, _, hend, _, rfl, ⟨hs4.os, hs4.tape, hs4.output⟩, hcalm w4 _ hA (by simp [World.putObj]) (fun b hb => World.putObj_heap_other hb), .inr ⟨rfl, .exit id, .exit id, .inr ⟨id, rfl, rfl⟩, hstx _ _ _ _ _ (by omega) hl4 hI, ?_, ?_⟩⟩
      · have := World.putObj_heap_same (w := w4) (r := H.size + 1) (o := .loop { rec .ready none with state := .done, pending := some (.exit id) }) (Array.getElem?_eq_some_iff.1 hl4).1
        rw [hrec] at this ⊢
        exact this
      · exact (World.putObj_heap_other (by omega)).trans hd4
    | _ => exact hq.elim
/-! ### Operations -/
section
variable {C : Cx} {o : Oper} {L : Env} {H : Heap} {b : Nat} {l : KV}
theorem Ef.makeMap {t : Nat} {K : Value → Heap → Prop} (ho : o.op = .makeMap t none) (hk : ∀ H', MapI H' H.size [] → Ext H H' → H'.size = H.size + 1 → K (.map (some H.size)) H') : Ef C o L H K :=
  Ef.of (by rw [ho]; rfl) fun a w ha hw => by
    subst hw
    refine .inl ⟨.map (some w.heap.size), w.alloc (.map #[] 0), ?_, ⟨rfl, rfl, rfl⟩, hk _ ⟨⟨#[], 0, ?_, stamped_empty 0, rfl⟩, fun p hp => absurd hp (by simp)⟩ (Ext.push _ _) (by show (w.heap.push _).size = _; simp)⟩
    · have e : (Instr.makeMap t none).run C.P w = .ok (.map (some w.heap.size)) (w.alloc (.map #[] 0)) := rfl
      simp [execOp, ho, e, Result.andThen, Sem.run_bind]
    · show (w.heap.push _)[w.heap.size]? = _
      rw [Array.getElem?_push, if_pos rfl]
theorem Ef.lookup [Tbl C.P] {mt kt et sz bt sz' bt' sz'' bt'' : Nat} {z z' z'' : Value} {d : TypeDesc} {ok : Bool} {x y : Operand} {k : Int} {K : Value → Heap → Prop} (ho : o.op = .lookup mt x y ok) (hx : L.ev x = some (.map (some b))) (hy : L.ev y = some (IK k)) (hm : MapI H b l)
    (ht : ty C.P mt = some ⟨.map kt et, sz, bt, z⟩) (hkt : ty C.P kt = some ⟨.int .i64, sz', bt', z'⟩) (he : ty C.P et = some ⟨d, sz'', bt'', z''⟩) (hi : i64 k)
    (hk : K (if ok then .tuple #[(mget l k).getD z'', .bool (mget l k).isSome] else (mget l k).getD z'') H) : Ef C o L H K :=
  Ef.of (by rw [ho]; rfl) fun a w ha hw => by
    have h1 := agr_of ha hx (by rw [ho]; simp [Op.operands])
    have h2 := agr_of ha hy (by rw [ho]; simp [Op.operands])
    subst hw
    refine .inl ⟨_, w, ?_, ⟨rfl, rfl, rfl⟩, hk⟩
    simp only [execOp, ho, h1, h2, Sem.run_bind, run_lookupI hm ht hkt he hi, Result.andThen]
    rfl
theorem Ef.mapUpdate [Tbl C.P] {mt kt et sz bt sz' bt' : Nat} {z z' : Value} {x y v : Operand} {k : Int} {u : Value} {K : Value → Heap → Prop} (ho : o.op = .mapUpdate mt x y v) (hx : L.ev x = some (.map (some b))) (hy : L.ev y = some (IK k)) (hv : L.ev v = some u) (hm : MapI H b l)
    (ht : ty C.P mt = some ⟨.map kt et, sz, bt, z⟩) (hkt : ty C.P kt = some ⟨.int .i64, sz', bt', z'⟩) (hi : i64 k)
    (hk : ∀ H', MapI H' b (mput l k u) → Chg (fun c => c = b) H H' → K undef H') : Ef C o L H K :=
  Ef.of (by rw [ho]; rfl) fun a w ha hw => by
    have h1 := agr_of ha hx (by rw [ho]; simp [Op.operands])
    have h2 := agr_of ha hy (by rw [ho]; simp [Op.operands])
    have h3 := agr_of ha hv (by rw [ho]; simp [Op.operands])
    subst hw
    obtain ⟨w', hr, hs, hm', hc⟩ := run_updateI (v := u) hm ht hkt hi
    refine .inr ⟨w', ?_, hs, hk _ hm' hc⟩
    simp only [execOp, ho, h1, h2, h3, Sem.run_bind, hr, Result.andThen]
    rfl
end
section
variable {C : Cx} {ops : Array Oper} {l : List Oper} {L : Env} {ds : List Nat} {H : Heap} {Kk : Env → Heap → Prop} {o : Oper} {B : Array Nat} {p : Plan} {pend : List Rec} {b : Nat} {m : KV}
theorem RegS.makeMap {t dst : Nat} (k : ∀ H', MapI H' H.size [] → Ext H H' → H'.size = H.size + 1 → RegS C ops l ((dst, .map (some H.size)) :: L) ds H' Kk) (ho : o.op = .makeMap t none := by rfl)
    (hds : o.dst = some dst := by rfl) (hg : gd ops o L = some true := by rfl) (hdd : Nat.blt dst C.N = true := by rfl) : RegS C ops (o :: l) L ds H Kk :=
  RegS.ef hg (by rw [hds]; exact hdd) (Ef.makeMap ho fun H' h1 h2 h3 => by rw [hds]; exact k H' h1 h2 h3)
theorem RegS.lookup [Tbl C.P] {mt kt et sz bt sz' bt' sz'' bt'' dst : Nat} {z z' z'' : Value} {d : TypeDesc} {ok : Bool} {x y : Operand} {k : Int} (hm : MapI H b m) (hi : i64 k)
    (kk : RegS C ops l ((dst, if ok then .tuple #[(mget m k).getD z'', .bool (mget m k).isSome] else (mget m k).getD z'') :: L) ds H Kk)
    (ho : o.op = .lookup mt x y ok := by rfl) (hx : L.ev x = some (.map (some b)) := by rfl) (hy : L.ev y = some (IK k) := by rfl)
    (ht : ty C.P mt = some ⟨.map kt et, sz, bt, z⟩ := by rfl) (hkt : ty C.P kt = some ⟨.int .i64, sz', bt', z'⟩ := by rfl) (he : ty C.P et = some ⟨d, sz'', bt'', z''⟩ := by rfl)
    (hds : o.dst = some dst := by rfl) (hg : gd ops o L = some true := by rfl) (hdd : Nat.blt dst C.N = true := by rfl) : RegS C ops (o :: l) L ds H Kk :=
  RegS.ef hg (by rw [hds]; exact hdd) (Ef.lookup ho hx hy hm ht hkt he hi (by rw [hds]; exact kk))
theorem RegP.lookup [Tbl C.P] {i mt kt et sz bt sz' bt' sz'' bt'' dst : Nat} {keep : List Nat} {z z' z'' : Value} {d : TypeDesc} {ok : Bool} {x y : Operand} {k : Int} (hm : MapI H b m) (hi : i64 k)
    (kk : RegP C ops B p (pfilter keep pend) ((dst, if ok then .tuple #[(mget m k).getD z'', .bool (mget m k).isSome] else (mget m k).getD z'') :: L) ds H Kk)
    (hii : ops[i]? = some o := by rfl) (ho : o.op = .lookup mt x y ok := by rfl) (hx : L.ev x = some (.map (some b)) := by rfl) (hy : L.ev y = some (IK k) := by rfl)
    (ht : ty C.P mt = some ⟨.map kt et, sz, bt, z⟩ := by rfl) (hkt : ty C.P kt = some ⟨.int .i64, sz', bt', z'⟩ := by rfl) (he : ty C.P et = some ⟨d, sz'', bt'', z''⟩ := by rfl)
    (hds : o.dst = some dst := by rfl) (hg : gd ops o L = some true := by rfl) (hdd : Nat.blt dst C.N = true := by rfl) : RegP C ops B (.e i keep p .nil) pend L ds H Kk :=
  RegP.ef (Ef.lookup ho hx hy hm ht hkt he hi (by rw [hds]; exact ⟨.inl (Ext.refl _), kk⟩)) hii hg (by rw [hds]; exact hdd)
theorem RegS.lookup1 [Tbl C.P] {mt kt et sz bt sz' bt' sz'' bt'' dst : Nat} {z z' z'' : Value} {d : TypeDesc} {x y : Operand} {k : Int} (hm : MapI H b m) (hi : i64 k)
    (kk : RegS C ops l ((dst, (mget m k).getD z'') :: L) ds H Kk)
    (ho : o.op = .lookup mt x y false := by rfl) (hx : L.ev x = some (.map (some b)) := by rfl) (hy : L.ev y = some (IK k) := by rfl)
    (ht : ty C.P mt = some ⟨.map kt et, sz, bt, z⟩ := by rfl) (hkt : ty C.P kt = some ⟨.int .i64, sz', bt', z'⟩ := by rfl) (he : ty C.P et = some ⟨d, sz'', bt'', z''⟩ := by rfl)
    (hds : o.dst = some dst := by rfl) (hg : gd ops o L = some true := by rfl) (hdd : Nat.blt dst C.N = true := by rfl) : RegS C ops (o :: l) L ds H Kk :=
  RegS.lookup (ok := false) hm hi kk ho hx hy ht hkt he hds hg hdd
theorem RegS.lookup2 [Tbl C.P] {mt kt et sz bt sz' bt' sz'' bt'' dst : Nat} {z z' z'' : Value} {d : TypeDesc} {x y : Operand} {k : Int} (hm : MapI H b m) (hi : i64 k)
    (kk : RegS C ops l ((dst, .tuple #[(mget m k).getD z'', .bool (mget m k).isSome]) :: L) ds H Kk)
    (ho : o.op = .lookup mt x y true := by rfl) (hx : L.ev x = some (.map (some b)) := by rfl) (hy : L.ev y = some (IK k) := by rfl)
    (ht : ty C.P mt = some ⟨.map kt et, sz, bt, z⟩ := by rfl) (hkt : ty C.P kt = some ⟨.int .i64, sz', bt', z'⟩ := by rfl) (he : ty C.P et = some ⟨d, sz'', bt'', z''⟩ := by rfl)
    (hds : o.dst = some dst := by rfl) (hg : gd ops o L = some true := by rfl) (hdd : Nat.blt dst C.N = true := by rfl) : RegS C ops (o :: l) L ds H Kk :=
  RegS.lookup (ok := true) hm hi kk ho hx hy ht hkt he hds hg hdd
theorem RegP.lookup2 [Tbl C.P] {i mt kt et sz bt sz' bt' sz'' bt'' dst : Nat} {keep : List Nat} {z z' z'' : Value} {d : TypeDesc} {x y : Operand} {k : Int} (hm : MapI H b m) (hi : i64 k)
    (kk : RegP C ops B p (pfilter keep pend) ((dst, .tuple #[(mget m k).getD z'', .bool (mget m k).isSome]) :: L) ds H Kk)
    (hii : ops[i]? = some o := by rfl) (ho : o.op = .lookup mt x y true := by rfl) (hx : L.ev x = some (.map (some b)) := by rfl) (hy : L.ev y = some (IK k) := by rfl)
    (ht : ty C.P mt = some ⟨.map kt et, sz, bt, z⟩ := by rfl) (hkt : ty C.P kt = some ⟨.int .i64, sz', bt', z'⟩ := by rfl) (he : ty C.P et = some ⟨d, sz'', bt'', z''⟩ := by rfl)
    (hds : o.dst = some dst := by rfl) (hg : gd ops o L = some true := by rfl) (hdd : Nat.blt dst C.N = true := by rfl) : RegP C ops B (.e i keep p .nil) pend L ds H Kk :=
  RegP.lookup (ok := true) hm hi kk hii ho hx hy ht hkt he hds hg hdd
theorem RegP.mapUpdate [Tbl C.P] {i mt kt et sz bt sz' bt' : Nat} {keep : List Nat} {z z' : Value} {x y v : Operand} {k : Int} {u : Value} (hm : MapI H b m) (hi : i64 k)
    (kk : ∀ H', MapI H' b (mput m k u) → Chg (fun c => c = b) H H' → Proms C ops H' (pfilter keep pend) ∧ RegP C ops B p (pfilter keep pend) L ds H' Kk)
    (hii : ops[i]? = some o := by rfl) (ho : o.op = .mapUpdate mt x y v := by rfl) (hx : L.ev x = some (.map (some b)) := by rfl) (hy : L.ev y = some (IK k) := by rfl) (hv : L.ev v = some u := by rfl)
    (ht : ty C.P mt = some ⟨.map kt et, sz, bt, z⟩ := by rfl) (hkt : ty C.P kt = some ⟨.int .i64, sz', bt', z'⟩ := by rfl)
    (hds : o.dst = none := by rfl) (hg : gd ops o L = some true := by rfl) : RegP C ops B (.e i keep p .nil) pend L ds H Kk :=
  RegP.ef (Ef.mapUpdate ho hx hy hv hm ht hkt hi fun H' h1 h2 => by rw [hds]; exact ⟨.inr (kk H' h1 h2).1, (kk H' h1 h2).2⟩) hii hg (by rw [hds]; rfl)
end
/-! ### Ranges over maps -/
open Go (leftOf)
/-- Iterator r is over map b; these entries are still to come; this one is at hand. -/
structure MIter (H : Heap) (r b : Nat) (l todo : KV) (cur : Option (Int × Value)) : Prop where
  wf : ∀ p ∈ l, i64 p.1
  at_ : ∃ es clock since seen c0, H[b]? = some (.map es clock) ∧ Stamped es clock ∧ es.toList.map (fun e => (e.key, e.val)) = (l.map fun p => (IK p.1, p.2)) ∧ H[r]? = some (.mapIter (some b) since seen c0) ∧ (∀ x ∈ es.toList, x.born < since) ∧ since ≤ c0 ∧ since ≤ clock ∧
    (leftOf es seen).toList.map (fun e => (e.key, e.val)) = (todo.map fun p => (IK p.1, p.2)) ∧ (∀ p, cur = some p → c0 = clock ∧ ∃ e ∈ es.toList, ∃ s : Array Nat, seen = s.push e.born ∧ e.key = IK p.1 ∧ e.val = p.2)
theorem MIter.get {H H' : Heap} {r b : Nat} {l todo : KV} {cur : Option (Int × Value)} (h : MIter H r b l todo cur) (hb : H'[b]? = H[b]?) (hr : H'[r]? = H[r]?) : MIter H' r b l todo cur := by
  obtain ⟨es, clock, since, seen, c0, h1, h2, h3, h4, rest⟩ := h.at_
  exact ⟨h.wf, es, clock, since, seen, c0, hb.trans h1, h2, h3, hr.trans h4, rest⟩
theorem MIter.ne {H : Heap} {r b : Nat} {l todo : KV} {cur : Option (Int × Value)} (h : MIter H r b l todo cur) : r ≠ b ∧ r < H.size ∧ b < H.size := by
  obtain ⟨es, clock, since, seen, c0, h1, h2, h3, h4, rest⟩ := h.at_
  refine ⟨fun e => ?_, (Array.getElem?_eq_some_iff.1 h4).1, (Array.getElem?_eq_some_iff.1 h1).1⟩
  rw [e, h1] at h4
  cases h4
theorem MIter.obj {H : Heap} {r b : Nat} {l todo : KV} {cur : Option (Int × Value)} (h : MIter H r b l todo cur) : (∃ o, H[r]? = some o ∧ ∀ c e z, o ≠ .cells c e z) := by
  obtain ⟨es, clock, since, seen, c0, h1, h2, h3, h4, rest⟩ := h.at_
  exact ⟨_, h4, by intros; simp⟩
theorem filter_left (es : Array MapEntry) (seen : Array Nat) (e : MapEntry) : (leftOf es (seen.push e.born)).toList = (leftOf es seen).toList.filter fun x => x.born != e.born := by
  unfold leftOf
  rw [Array.toList_filter, Array.toList_filter, List.filter_filter]
  refine List.filter_congr fun x _ => ?_
  simp only [Array.contains_push]
  cases seen.contains x.born <;> cases h : (x.born == e.born) <;> simp_all
theorem kv_filter : ∀ {A : List MapEntry} {T : KV} {e : MapEntry} {p : Int × Value}, A.map (fun e => (e.key, e.val)) = (T.map fun p => (IK p.1, p.2)) → e.key = IK p.1 → (∀ x ∈ A, x.born = e.born ↔ x.key = e.key) →
    (A.filter fun x => x.born != e.born).map (fun e => (e.key, e.val)) = (T.filter fun q => q.1 ≠ p.1).map fun p => (IK p.1, p.2)
  | [], [], _, _, _, _, _ => rfl
  | [], q :: T, _, _, h, _, _ => by simp at h
  | a :: A, [], _, _, h, _, _ => by simp at h
  | a :: A, q :: T, e, p, h, he, hb => by
    simp only [List.map_cons, List.cons.injEq, Prod.mk.injEq] at h
    have ih := kv_filter (A := A) (T := T) (e := e) (p := p) h.2 he fun x hx => hb x (List.mem_cons_of_mem _ hx)
    have ha := hb a List.mem_cons_self
    by_cases hk : q.1 = p.1
    · have hab : a.born = e.born := ha.2 (by rw [h.1.1, he, hk])
      rw [List.filter_cons_of_neg (by simp [hab]), List.filter_cons_of_neg (by simp [hk])]
      exact ih
    · have hab : a.born ≠ e.born := fun x => hk (IK_inj (by rw [← h.1.1, ha.1 x, he]))
      rw [List.filter_cons_of_pos (by simp [hab]), List.filter_cons_of_pos (by simp [hk])]
      simp only [List.map_cons, ih, h.1.1, h.1.2]
section
variable {C : Cx} {o : Oper} {L : Env} {H : Heap} {b r : Nat} {l todo : KV} {cur : Option (Int × Value)}
theorem Ef.rangeMap [Tbl C.P] {mt kt et sz bt : Nat} {z : Value} {x : Operand} {K : Value → Heap → Prop} (ho : o.op = .range mt x) (hx : L.ev x = some (.map (some b))) (hm : MapI H b l) (ht : ty C.P mt = some ⟨.map kt et, sz, bt, z⟩)
    (hk : ∀ H', MIter H' H.size b l l none → Ext H H' → H'.size = H.size + 1 → K (.pointer (some ⟨H.size, 0, none⟩)) H') : Ef C o L H K :=
  Ef.of (by rw [ho]; rfl) fun a w ha hw => by
    have h1 := agr_of ha hx (by rw [ho]; simp [Op.operands])
    subst hw
    obtain ⟨es, clock, hb, hs, h3⟩ := hm.at_
    refine .inl ⟨_, _, ?_, ?_, hk (w.alloc (.mapIter (some b) clock #[] clock)).heap ⟨hm.wf, es, clock, clock, #[], clock, ?_, hs, h3, ?_, ((stamped_iff es clock).1 hs).1, Nat.le_refl _, Nat.le_refl _, ?_, fun p hp => by cases hp⟩ (Ext.push _ _) (by show (w.heap.push _).size = _; simp)⟩
    · simp only [execOp, ho, h1, Sem.run_bind, run_range_map w mt kt et b es clock (Tbl.ok.find ht).1 hb, Result.andThen]
      rfl
    · exact ⟨rfl, rfl, rfl⟩
    · show (w.heap.push _)[b]? = _
      rw [Array.getElem?_push, if_neg (by have := hm.lt; omega)]; exact hb
    · show (w.heap.push _)[w.heap.size]? = _
      rw [Array.getElem?_push, if_pos rfl]
    · have e : (leftOf es #[]).toList = es.toList := by
        unfold leftOf
        rw [Array.toList_filter]
        exact List.filter_eq_self.2 fun x _ => by simp
      rw [← h3, e]
theorem Ef.nextMap {t : Nat} {x : Operand} {K : Value → Heap → Prop} (ho : o.op = .next x false) (hx : L.ev x = some (.pointer (some ⟨r, 0, none⟩))) (hm : MIter H r b l todo cur)
    (h0 : todo = [] → K (.tuple #[.bool false]) H)
    (hk : ∀ (p : Int × Value) (H' : Heap), p ∈ todo → MIter H' r b l (todo.filter fun q => q.1 ≠ p.1) (some p) → Keep r H H' → K (.tuple #[.bool true, IK p.1, p.2]) H') : Ef C o L H K :=
  Ef.of (by rw [ho]; rfl) fun a w ha hw => by
    have h1 := agr_of ha hx (by rw [ho]; simp [Op.operands])
    subst hw
    have hne := hm.ne.1
    obtain ⟨es, clock, since, seen, c0, hb, hs, h3, hr, hold, hsc, hsk, hleft, _⟩ := hm.at_
    rcases run_next_at (P := C.P) w o.type r b since c0 seen es clock hr hb hold hsc with ⟨hz, hrun⟩ | ⟨e, he, w1, hal, hrun⟩
    · refine .inl ⟨_, w, ?_, ⟨rfl, rfl, rfl⟩, h0 ?_⟩
      · simp only [execOp, ho, h1, Sem.run_bind, hrun, Result.andThen]
        rfl
      · have := congrArg List.length hleft
        rw [List.length_map, List.length_map, Array.length_toList, hz] at this
        exact List.eq_nil_of_length_eq_zero this.symm
    · obtain ⟨i, hi⟩ := List.getElem?_of_mem he
      obtain ⟨p, hp, e1, e2⟩ := kv_each hleft e hi
      obtain ⟨hem, hes⟩ := mem_left he
      have hheap : w1.heap = w.heap := by rcases hal with rfl | rfl <;> rfl
      have hr1 : w1.heap[r]? = some (.mapIter (some b) since seen c0) := by rw [hheap]; exact hr
      have hset := MapKept.heap_set (w := w1) (o' := .mapIter (some b) since (seen.push e.born) clock) hr1
      refine .inl ⟨_, _, ?_, ?_, hk p (Go.ChangeMaps.setBlock w1 r (.mapIter (some b) since (seen.push e.born) clock)).heap (List.mem_of_getElem? hp) ⟨hm.wf, es, clock, since, seen.push e.born, clock, ?_, hs, h3, hset.1, hold, hsk, hsk, ?_, ?_⟩ ?_⟩
      · simp only [execOp, ho, h1, Sem.run_bind, hrun, Result.andThen, e1, e2]
        rfl
      · rcases hal with rfl | rfl <;> exact ⟨rfl, rfl, rfl⟩
      · exact (hset.2 b (fun e => hne e.symm)).trans (by rw [hheap]; exact hb)
      · rw [filter_left]
        have hst := (stamped_iff es clock).1 hs
        refine kv_filter hleft e1 fun x hx => ⟨fun hxe => ?_, fun hxe => ?_⟩
        · rw [born_inj hst.2.1 (mem_left hx).1 hem hxe]
        · rw [entry_eq_of_key hst.2.2 (mem_left hx).1 hem hxe]
      · intro q hq
        cases hq
        exact ⟨rfl, e, hem, seen, rfl, e1, e2⟩
      · show Keep r w.heap (w1.heap.setIfInBounds r _)
        rw [hheap]
        exact .put (Nat.le_refl _) hr (by intros; simp)
theorem Ef.entryMap {x : Operand} {p : Int × Value} {K : Value → Heap → Prop} (ho : o.op = .entry x) (hx : L.ev x = some (.pointer (some ⟨r, 0, none⟩))) (hm : MIter H r b l todo (some p)) (hk : K (.tuple #[IK p.1, p.2]) H) : Ef C o L H K :=
  Ef.of (by rw [ho]; rfl) fun a w ha hw => by
    have h1 := agr_of ha hx (by rw [ho]; simp [Op.operands])
    subst hw
    obtain ⟨es, clock, since, seen, c0, hb, hs, h3, hr, hold, hsc, hsk, hleft, hcur⟩ := hm.at_
    obtain ⟨rfl, e, he, s, rfl, e1, e2⟩ := hcur p rfl
    refine .inl ⟨_, w, ?_, ⟨rfl, rfl, rfl⟩, hk⟩
    simp only [execOp, ho, h1, Sem.run_bind, run_entry_at (P := C.P) w r b since s es c0 e hr hb he ((stamped_iff es c0).1 hs).2.1, Result.andThen, e1, e2]
    rfl
end
section
variable {C : Cx} {ops : Array Oper} {l : List Oper} {L : Env} {ds : List Nat} {H : Heap} {Kk : Env → Heap → Prop} {o : Oper} {b r : Nat} {m todo : KV} {cur : Option (Int × Value)}
theorem RegS.rangeMap [Tbl C.P] {mt kt et sz bt dst : Nat} {z : Value} {x : Operand} (hm : MapI H b m) (kk : ∀ H', MIter H' H.size b m m none → Ext H H' → H'.size = H.size + 1 → RegS C ops l ((dst, .pointer (some ⟨H.size, 0, none⟩)) :: L) ds H' Kk)
    (ho : o.op = .range mt x := by rfl) (hx : L.ev x = some (.map (some b)) := by rfl) (ht : ty C.P mt = some ⟨.map kt et, sz, bt, z⟩ := by rfl)
    (hds : o.dst = some dst := by rfl) (hg : gd ops o L = some true := by rfl) (hdd : Nat.blt dst C.N = true := by rfl) : RegS C ops (o :: l) L ds H Kk :=
  RegS.ef hg (by rw [hds]; exact hdd) (Ef.rangeMap ho hx hm ht fun H' h1 h2 h3 => by rw [hds]; exact kk H' h1 h2 h3)
theorem RegS.nextMap {dst : Nat} {x : Operand} (hm : MIter H r b m todo cur) (k0 : todo = [] → RegS C ops l ((dst, .tuple #[.bool false]) :: L) ds H Kk)
    (kk : ∀ (p : Int × Value) (H' : Heap), p ∈ todo → MIter H' r b m (todo.filter fun q => q.1 ≠ p.1) (some p) → Keep r H H' → RegS C ops l ((dst, .tuple #[.bool true, IK p.1, p.2]) :: L) ds H' Kk)
    (ho : o.op = .next x false := by rfl) (hx : L.ev x = some (.pointer (some ⟨r, 0, none⟩)) := by rfl)
    (hds : o.dst = some dst := by rfl) (hg : gd ops o L = some true := by rfl) (hdd : Nat.blt dst C.N = true := by rfl) : RegS C ops (o :: l) L ds H Kk :=
  RegS.ef hg (by rw [hds]; exact hdd) (Ef.nextMap (t := 0) ho hx hm (fun h => by rw [hds]; exact k0 h) fun p H' h1 h2 h3 => by rw [hds]; exact kk p H' h1 h2 h3)
theorem RegS.entryMap {dst : Nat} {x : Operand} {p : Int × Value} (hm : MIter H r b m todo (some p)) (kk : RegS C ops l ((dst, .tuple #[IK p.1, p.2]) :: L) ds H Kk)
    (ho : o.op = .entry x := by rfl) (hx : L.ev x = some (.pointer (some ⟨r, 0, none⟩)) := by rfl)
    (hds : o.dst = some dst := by rfl) (hg : gd ops o L = some true := by rfl) (hdd : Nat.blt dst C.N = true := by rfl) : RegS C ops (o :: l) L ds H Kk :=
  RegS.ef hg (by rw [hds]; exact hdd) (Ef.entryMap ho hx hm (by rw [hds]; exact kk))
end
theorem Wp.rangeG {P : Program} {u : World} {N : Nat} {X : List Nat} {pl : List (Nat × Plan)} {f : Operand} {ps : List Nat} {assign body : Code} {Q : QPost} {L : Env} {ds : List Nat} {H : Heap} {g : FuncId} {cap : List Value} {ι : Type} {i0 : ι} {step : ι → List Value → ι → Prop} {fin : ι → Prop} {pre : Heap → Prop}
    (it : IterG P g cap i0 step fin pre) (aenv : List Value → Env) (I : ι → Heap → Prop) (Ix : Exit → Heap → Prop)
    (hpre : ∀ k A, I k A → pre A) (hI : ∀ k A A', I k A → Keep H.size A A' → I k A') (hIx : ∀ e A A', Ix e A → Keep H.size A A' → Ix e A') (hlen : ∀ k vs k', step k vs k' → vs.length = ps.length) (h0 : I i0 H)
    (hassign : ∀ u l k k' A vs, step k vs k' → I k A → Wp ⟨P, u, N, some l, X, pl⟩ assign (fun e L' ds' H1 => e = .normal ∧ ds' = [] ∧ H1 = A ∧ Sub (aenv vs) L') (zipEnv ps vs L) [] A)
    (hbody : ∀ u l k k' A vs, H.size + 2 ≤ A.size → step k vs k' → I k A → Wp ⟨P, u, N, some l, X, pl⟩ body (bodyG H.size (I k') Ix A) (aenv vs) [] A)
    (hdone : ∀ k A D, H.size ≤ D → fin k → I k A → A[D]? = some (.deferred (some [])) → Q .normal L (D :: ds) A)
    (hstop : ∀ e A D, H.size ≤ D → Ix e A → A[D]? = some (.deferred (some [])) → Q e L (D :: ds) A)
    (hf : L.ev f = some (.func (.func g) #[] cap.toArray) := by rfl) (hps : allLt N ps = true := by rfl) : Wp ⟨P, u, N, none, X, pl⟩ (.rangeFunc f ps.toArray assign body) Q L ds H :=
  Wp.rangeY (C := ⟨P, u, N, none, X, pl⟩) aenv I Ix rfl hf hps it hpre hI hIx hlen h0 hassign hbody hdone hstop
end Go.Vc
