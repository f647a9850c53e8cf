/-
  The calculus, part 3: calls, returns, the table of types, cells.
-/
import Derived.Test.YtccgbgjhjpllcaaVcReg
set_option linter.unusedVariables false
set_option linter.unusedSimpArgs false
namespace Go.Vc

/-! ### Functions -/
def Callable (P : Program) (f : FuncId) : Prop := ∀ args w, (callFunc f args).run P w = .ok (.enter f args) w
/-- The call returns; R tells what it yields and leaves. -/
structure CallsH (P : Program) (f : FuncId) (args : List Value) (H : Heap) (R : Value → Heap → Prop) : Prop where
  can : Callable P f
  run : ∀ w, w.heap = H → Calls P f args.toArray w fun e w' => ∃ v, e = .returned v ∧ Sim w w' ∧ R v w'.heap
theorem CallsH.mono {P : Program} {f : FuncId} {args : List Value} {H : Heap} {R R' : Value → Heap → Prop} (h : CallsH P f args H R) (hr : ∀ v H', R v H' → R' v H') : CallsH P f args H R' :=
  ⟨h.can, fun w hw => (h.run w hw).mono fun _ _ ⟨v, e, s, r⟩ => ⟨v, e, s, hr _ _ r⟩⟩

def argEnv : Nat → List Value → Env
  | _, [] => []
  | k, v :: r => (k, v) :: argEnv (k + 1) r
theorem argEnv_get : ∀ {k : Nat} {l : List Value} {n : Nat} {v : Value}, (argEnv k l).get n = some v → k ≤ n ∧ l[n - k]? = some v
  | _, [], _, _, h => by simp [argEnv, Env.get] at h
  | k, u :: r, n, v, h => by
    simp only [argEnv, Env.get] at h
    by_cases e : k = n
    · subst e
      rw [Nat.beq_refl] at h
      exact ⟨Nat.le_refl _, by simpa using h⟩
    · rw [beq_ne e] at h
      obtain ⟨h1, h2⟩ := argEnv_get h
      refine ⟨by omega, ?_⟩
      have : n - k = n - (k + 1) + 1 := by omega
      rw [this]
      exact h2

/-- The blocks of the loops' deferred calls are shut at the return. -/
def shutAll : List Nat → Heap → Heap
  | [], H => H
  | d :: ds, H => shutAll ds (H.setIfInBounds d (.deferred none))
def Shuts : List Nat → Heap → Prop
  | [], _ => True
  | d :: ds, H => H[d]? = some (.deferred (some [])) ∧ Shuts ds (H.setIfInBounds d (.deferred none))
/-- The function's results over a frame of which L is known. -/
def Res (P : Program) (fn : Func) (N : Nat) (L : Env) (H : Heap) (v : Value) : Prop :=
  ∀ a ds w, w.heap = H → Knows N L ds a → (results fn a.tmps).run P w = .ok v w
def retQ (C : Cx) (fn : Func) (R : Value → Heap → Prop) : QPost
  | .normal, L, ds, H | .ret, L, ds, H => Shuts ds H ∧ ∃ v, Res C.P fn C.N L (shutAll ds H) v ∧ R v (shutAll ds H)
  | _, _, _, _ => False

theorem enter_aux {P : Program} {fn : Func} {N : Nat} {R : Value → Heap → Prop} {u : World} {L : Env} {v : Value} {a : Act} {ds0 : List Nat} : ∀ (ds : List Nat) (w : World), Sim u w → Shuts ds w.heap →
    Knows N L ds0 a → Res P fn N L (shutAll ds w.heap) v → R v (shutAll ds w.heap) →
    LeavesInM Fence.wide 0 P fn a.tmps (fun e w' => ∃ v, e = .returned v ∧ Sim u w' ∧ R v w'.heap) (mks ds) .returning w
  | [], w, s, _, k, hr, hR => ⟨v, hr a ds0 w rfl k, v, rfl, s, hR⟩
  | d :: ds, w, s, hs, k, hr, hR => by
    refine ⟨by simp, .inl ⟨d, _, rfl, run_takeDeferred hs.1, ?_⟩⟩
    exact enter_aux ds _ ⟨s.os, s.tape, s.output⟩ hs.2 k hr hR

theorem CallsH.enter {P : Program} {f : FuncId} {fn : Func} {c : Code} {args : List Value} {H : Heap} {R : Value → Heap → Prop} (hd : Hd)
    (hf : P.funcs[f]? = some fn) (hb : fn.body = some c) (hN : fn.ntmps = hd.N) (hn : Nat.ble args.length hd.N = true) (hname : (fn.name == "runtime.NumGoroutine") = false)
    (h : ∀ u, Wp ⟨P, u, hd.N, none, hd.X, hd.pl⟩ c (retQ ⟨P, u, hd.N, none, hd.X, hd.pl⟩ fn R) (argEnv 0 args) [] H) : CallsH P f args H R := by
  obtain ⟨N, X, pl⟩ := hd
  simp only at hN hn h
  refine ⟨fun as w => ?_, fun w hw => callsIn_wide (n := 0) |>.1 (callsIn_of_wp_marks hf hb trivial ?_)⟩
  · have hne : ¬fn.name = "runtime.NumGoroutine" := by simpa using hname
    simp [callFunc, program, Sem.run, hf, hne, hb]
  · subst hN
    have hle : args.length ≤ fn.ntmps := Nat.le_of_ble_eq_true hn
    refine wpIn_mono ((h w).out { tmps := args.toArray ++ Array.replicate (fn.ntmps - args.toArray.size) undef, defers := [] } w (Sim.refl w) hw ⟨?_, rfl, ?_⟩) ?_
    · simp; omega
    · intro n v hv
      obtain ⟨_, h2⟩ := argEnv_get hv
      have hlt : n < args.length := by
        have := List.getElem?_eq_some_iff.1 h2
        obtain ⟨h3, _⟩ := this
        omega
      rw [Array.getElem?_append_left (by simpa using hlt)]
      simpa using h2
    · rintro e a w' ⟨s, L, ds, k, q⟩
      cases e with
      | normal => obtain ⟨hs, v, hr, hR⟩ := q; show LeavesInM _ _ _ _ _ _ a.defers _ _; rw [k.defers]; exact enter_aux ds w' s hs k hr hR
      | ret => obtain ⟨hs, v, hr, hR⟩ := q; show LeavesInM _ _ _ _ _ _ a.defers _ _; rw [k.defers]; exact enter_aux ds w' s hs k hr hR
      | _ => exact q.elim

theorem ret_plain {C : Cx} {fn : Func} {R : Value → Heap → Prop} {L : Env} {H : Heap} {v : Value} (hr : Res C.P fn C.N L H v) (h : R v H) : retQ C fn R .ret L [] H := ⟨trivial, v, hr, h⟩
theorem ret_plain_n {C : Cx} {fn : Func} {R : Value → Heap → Prop} {L : Env} {H : Heap} {v : Value} (hr : Res C.P fn C.N L H v) (h : R v H) : retQ C fn R .normal L [] H := ⟨trivial, v, hr, h⟩
theorem Res.none {P : Program} {fn : Func} {N : Nat} {L : Env} {H : Heap} (h : fn.results = #[]) : Res P fn N L H (.tuple #[]) :=
  fun a ds w hw k => results_none h _ _ _
theorem Res.one {P : Program} {fn : Func} {N : Nat} {L : Env} {H : Heap} {t : Nat} {v : Value} (h : fn.results = #[.tmp t]) (hv : L.get t = some v) : Res P fn N L H v :=
  fun a ds w hw k => by rw [results_tmp h]; simp [k.get' hv]
theorem Res.two {P : Program} {fn : Func} {N : Nat} {L : Env} {H : Heap} {t₁ t₂ : Nat} {v₁ v₂ : Value} (h : fn.results = #[.tmp t₁, .tmp t₂]) (h1 : L.get t₁ = some v₁) (h2 : L.get t₂ = some v₂) : Res P fn N L H (.tuple #[v₁, v₂]) :=
  fun a ds w hw k => by rw [results_tmp2 h]; simp [k.get' h1, k.get' h2]
theorem Res.three {P : Program} {fn : Func} {N : Nat} {L : Env} {H : Heap} {t₁ t₂ t₃ : Nat} {v₁ v₂ v₃ : Value} (h : fn.results = #[.tmp t₁, .tmp t₂, .tmp t₃]) (h1 : L.get t₁ = some v₁) (h2 : L.get t₂ = some v₂) (h3 : L.get t₃ = some v₃) : Res P fn N L H (.tuple #[v₁, v₂, v₃]) :=
  fun a ds w hw k => by
    have e1 := k.get' h1; have e2 := k.get' h2; have e3 := k.get' h3
    simp [results, h, e1, e2, e3]

attribute [irreducible] retQ

/-! ### The call -/
def evs (L : Env) : List Operand → Option (List Value)
  | [] => some []
  | x :: r => match L.ev x, evs L r with
    | some v, some vs => some (v :: vs)
    | _, _ => none
theorem evs_map {L : Env} {a : Act} : ∀ {xs : List Operand} {vs : List Value}, evs L xs = some vs → (∀ x ∈ xs, ∀ u, L.ev x = some u → a.eval x = u) → xs.map a.eval = vs
  | [], vs, h, _ => by simp [evs] at h; subst h; rfl
  | x :: r, vs, h, ha => by
    simp only [evs] at h
    split at h
    · rename_i v vs' h1 h2
      simp only [Option.some.injEq] at h
      subst h
      rw [List.map_cons, ha x List.mem_cons_self v h1, evs_map h2 fun y hy => ha y (List.mem_cons_of_mem _ hy)]
    · cases h

theorem calls_op {C : Cx} {o : Oper} {L : Env} {H : Heap} {R K : Value → Heap → Prop} {f : Operand} {xs : List Operand} {ts : Array TypeId} {g : FuncId} {first captured : List Value} {vs : List Value}
    (ho : o.op = .call { callee := .value f, args := xs.toArray, argTypes := ts }) (hf : L.ev f = some (.func (.func g) first.toArray captured.toArray)) (hxs : evs L xs = some vs)
    (h : CallsH C.P g (first ++ (vs ++ captured)) H R) (hk : ∀ v H', R v H' → K v H') : Ef C o L H K := by
  refine ⟨by rw [ho]; rfl, fun a w s hw ha next Q hn => ?_⟩
  have hfa : a.eval f = .func (.func g) first.toArray captured.toArray := ha f (by rw [ho]; simp [Op.operands, Call.operands]) _ hf
  have hva : xs.map a.eval = vs := evs_map hxs fun x hx u hu => ha x (by rw [ho]; simp [Op.operands, Call.operands, hx]) u hu
  have hargs : (first.toArray ++ (xs.toArray.map a.eval)) ++ captured.toArray = (first ++ (vs ++ captured)).toArray := by
    rw [List.map_toArray, hva]; simp
  have hrun : (execOp a.eval o).run C.P w = .ok (.enter g (first ++ (vs ++ captured)).toArray) w := by
    unfold execOp
    simp only [ho]
    simp only [resolve, hfa, Deferred.ofValue]
    have := h.can ((first ++ (vs ++ captured)).toArray) w
    rw [← hargs] at this
    simp only [Sem.run_bind, Sem.run_pure, Result.andThen]
    simp only [invoke]
    rw [this, hargs]
  rw [hrun]
  refine ⟨fun e => (by cases e), callsIn_wide (n := 0 - 1) |>.2 ((h.run w hw).mono ?_)⟩
  rintro e w' ⟨v, rfl, s', r⟩
  exact hn v w' ⟨s'.os.trans s.os, s'.tape.trans s.tape, s'.output.trans s.output⟩ (hk _ _ r)

end Go.Vc
