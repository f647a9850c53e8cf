/-
  The calculus of this seat's proofs, part 1: statements about frames (known slots) and heaps, over the kit's 'wpIn'.
  Nothing here speaks of one program: 'C.P' is any program.
-/
import Derived.RangeFuncLeaves
import Derived.RangeFuncRecord
import Derived.RangeFuncCalls
import Derived.TacticsIn
import Derived.OrdersIn
set_option linter.unusedVariables false
set_option linter.unusedSimpArgs false
namespace Go.Vc

abbrev Heap := Array Obj
abbrev Env := List (Nat × Value)

/-- The wide fence: every function may be entered; in the round of a loop, or in none. -/
def FW (ρ : Option Nat) : Fence := { Fence.wide with round := ρ }
theorem FW_none : FW none = Fence.wide := rfl
theorem FW_some (l : Nat) : FW (some l) = Fence.wide.inRound l := rfl

/-- Of a world only the heap (and the count of draws) may turn. -/
structure Sim (u w : World) : Prop where
  os : w.os = u.os
  tape : w.tape = u.tape
  output : w.output = u.output
theorem Sim.refl (w : World) : Sim w w := ⟨rfl, rfl, rfl⟩

/-- What stands still in a walk: the program, the streams, the frame's size, the loop whose round this is, the slots that outlive a statement. -/
inductive Plan where
  | fin
  | q (i : Nat) (p : Plan)
  | e (i : Nat) (keep : List Nat) (p alt : Plan)
  | nil
def ql : List Nat → Plan → Plan
  | [], p => p
  | i :: r, p => .q i (ql r p)
def planOf : List (Nat × Plan) → Nat → Option Plan
  | [], _ => none
  | (k, p) :: r, n => bif Nat.beq k n then some p else planOf r n
/-- A function's own: how many slots; those that outlive a statement; a plan for each statement whose order is open. -/
structure Hd where
  N : Nat
  X : List Nat
  pl : List (Nat × Plan)
structure Cx where
  P : Program
  u : World
  N : Nat
  ρ : Option Nat
  X : List Nat
  pl : List (Nat × Plan)

def mks (ds : List Nat) : List Deferred := ds.map fun r => { target := .collected r, args := #[] }

def Env.get : Env → Nat → Option Value
  | [], _ => none
  | (k, v) :: r, n => bif Nat.beq k n then some v else Env.get r n
/-- What is known of a frame. -/
structure Knows (N : Nat) (L : Env) (ds : List Nat) (a : Act) : Prop where
  size : a.tmps.size = N
  defers : a.defers = mks ds
  get : ∀ n v, L.get n = some v → a.tmps[n]? = some v

def Env.put (L : Env) (d : Nat) (v : Value) : Env := (d, v) :: L
def Env.putO (L : Env) (d : Option Nat) (v : Value) : Env :=
  match d with
  | some d => L.put d v
  | none => L
def memN : List Nat → Nat → Bool
  | [], _ => false
  | k :: r, n => bif Nat.beq k n then true else memN r n
/-- What L tells of the slots X, in X's order. -/
def Env.keep : List Nat → Env → Env
  | [], _ => []
  | x :: X, L => match L.get x with
    | some v => (x, v) :: Env.keep X L
    | none => Env.keep X L
theorem Env.get_put (L : Env) (d : Nat) (v : Value) (n : Nat) : (L.put d v).get n = bif Nat.beq d n then some v else L.get n := rfl
theorem beq_ne {a b : Nat} (h : a ≠ b) : Nat.beq a b = false := by
  cases hb : Nat.beq a b with
  | false => rfl
  | true => exact absurd (Nat.eq_of_beq_eq_true hb) h
theorem Env.get_put_some {L : Env} {d n : Nat} {v u : Value} (h : (L.put d v).get n = some u) : (n = d ∧ u = v) ∨ (n ≠ d ∧ L.get n = some u) := by
  rw [Env.get_put] at h
  by_cases e : d = n
  · subst e
    rw [Nat.beq_refl] at h
    exact .inl ⟨rfl, (Option.some.inj h).symm⟩
  · rw [beq_ne e] at h
    exact .inr ⟨fun k => e k.symm, h⟩
theorem Env.get_keep : ∀ {X : List Nat} {L : Env} {n : Nat} {v : Value}, (Env.keep X L).get n = some v → L.get n = some v
  | [], _, _, _, h => by simp [Env.keep, Env.get] at h
  | x :: X, L, n, v, h => by
    simp only [Env.keep] at h
    cases hx : L.get x with
    | none => rw [hx] at h; exact Env.get_keep (X := X) h
    | some u =>
      rw [hx] at h
      simp only [Env.get] at h
      by_cases e : x = n
      · subst e
        rw [Nat.beq_refl] at h
        rw [hx]; exact h
      · rw [beq_ne e] at h
        exact Env.get_keep (X := X) h

/-! ### Values in their own form -/
open Classical in
/-- A proposition as a Bool, which no step looks into. -/
@[irreducible] noncomputable def dec (p : Prop) : Bool := decide p
theorem dec_iff {p : Prop} : dec p = true ↔ p := by unfold dec; simp
theorem dec_pos {p : Prop} (h : p) : dec p = true := dec_iff.2 h
theorem dec_neg {p : Prop} (h : ¬p) : dec p = false := by
  cases hd : dec p with
  | false => rfl
  | true => exact absurd (dec_iff.1 hd) h
theorem of_dec {p : Prop} (h : dec p = true) : p := dec_iff.1 h
theorem of_not_dec {p : Prop} (h : dec p = false) : ¬p := fun hp => by rw [dec_pos hp] at h; cases h
theorem dec_decide (p : Prop) [Decidable p] : decide p = dec p := by
  by_cases h : p
  · rw [dec_pos h]; simp [h]
  · rw [dec_neg h]; simp [h]
theorem dec_not (p : Prop) : (!dec p) = dec (¬p) := by
  by_cases h : p
  · rw [dec_pos h, dec_neg (fun k => k h)]; rfl
  · rw [dec_neg h, dec_pos h]; rfl
theorem dec_congr {p q : Prop} (h : p ↔ q) : dec p = dec q := by rw [propext h]
theorem dec_bool (b : Bool) : dec (b = true) = b := by cases b <;> simp [dec]
/-- A byte as a value. -/
def B8 (b : UInt8) : Value := .int .u8 (b.toNat : Int)
/-- A slice's value: where there is no array there is no length. -/
structure Sl where
  ao : Option Addr
  len : Nat
  cap : Nat
  ok : ao = none → len = 0 ∧ cap = 0
  le : len ≤ cap
def Sl.val (s : Sl) : Value := .slice s.ao s.len s.cap
def Sl.nil : Sl := ⟨none, 0, 0, fun _ => ⟨rfl, rfl⟩, Nat.le_refl _⟩

/-- A literal in its own form: bytes as 'B8', the nil slice as 'Sl.nil'. -/
def norm : Value → Value
  | .int .u8 (.ofNat n) => bif Nat.blt n 256 then B8 (@OfNat.ofNat UInt8 n UInt8.instOfNat) else .int .u8 (.ofNat n)
  | .int k (.ofNat n) => .int k ((@OfNat.ofNat Nat n (instOfNatNat n) : Nat) : Int)
  | .slice none 0 0 => Sl.nil.val
  | v => v
theorem norm_eq (v : Value) : norm v = v := by
  unfold norm
  split
  · rename_i n
    cases h : Nat.blt n 256 with
    | false => rfl
    | true =>
      have : n < 256 := by
        have := Nat.le_of_ble_eq_true h
        omega
      simp only [cond_true, B8]
      congr 1
      have : (UInt8.ofNat n).toNat = n := by simp [UInt8.toNat_ofNat']; omega
      exact congrArg Int.ofNat this
  · rfl
  · rfl
  · rfl

def Env.ev (L : Env) : Operand → Option Value
  | .tmp t => L.get t
  | .const v => some (norm v)
  | .global g => some (.pointer (some ⟨g, 0, none⟩))
  | .func f => some (.func (.func f) #[] #[])

theorem Knows.get' {N : Nat} {L : Env} {ds : List Nat} {a : Act} (h : Knows N L ds a) {n : Nat} {v : Value} (hg : L.get n = some v) : a.tmps[n]? = some v := h.get _ _ hg
theorem Knows.ev {N : Nat} {L : Env} {ds : List Nat} {a : Act} (h : Knows N L ds a) {x : Operand} {v : Value} (hx : L.ev x = some v) : a.eval x = v := by
  cases x with
  | tmp t => simp [Act.eval, h.get' (n := t) hx]
  | const c => simp only [Env.ev, Option.some.injEq] at hx; rw [← hx, norm_eq]; rfl
  | global g => simp only [Env.ev, Option.some.injEq] at hx; rw [← hx]; rfl
  | func f => simp only [Env.ev, Option.some.injEq] at hx; rw [← hx]; rfl
theorem Knows.put {N : Nat} {L : Env} {ds : List Nat} {a : Act} (h : Knows N L ds a) (d : Nat) (v : Value) (hd : d < N) : Knows N (L.put d v) ds (a.put (some d) v) where
  size := by simp [Act.put, h.size]
  defers := h.defers
  get := fun n u hu => by
    rcases Env.get_put_some hu with ⟨rfl, rfl⟩ | ⟨hne, hu⟩
    · simp [Act.put, h.size, hd]
    · have := h.get n u hu
      simp only [Act.put]
      rw [Array.getElem?_setIfInBounds_ne (fun e => hne e.symm)]
      exact this
theorem Knows.putO {N : Nat} {L : Env} {ds : List Nat} {a : Act} (h : Knows N L ds a) (d : Option Nat) (v : Value) (hd : ∀ k, d = some k → k < N) : Knows N (L.putO d v) ds (a.put d v) := by
  cases d with
  | none => exact h
  | some d => exact h.put d v (hd d rfl)
theorem Knows.weaken {N : Nat} {L L' : Env} {ds : List Nat} {a : Act} (h : Knows N L ds a) (hs : ∀ n v, L'.get n = some v → L.get n = some v) : Knows N L' ds a := ⟨h.size, h.defers, fun n v hn => h.get n v (hs n v hn)⟩
theorem Knows.keep {N : Nat} {L : Env} {ds : List Nat} {a : Act} (h : Knows N L ds a) (X : List Nat) : Knows N (Env.keep X L) ds a := h.weaken fun _ _ => Env.get_keep

/-- 'L' tells at least what 'E' tells. -/
def Sub : Env → Env → Prop
  | [], _ => True
  | (k, v) :: r, L => L.get k = some v ∧ Sub r L
theorem Sub.mem : ∀ {E L : Env}, Sub E L → ∀ n v, E.get n = some v → L.get n = some v
  | [], _, _, n, v, hp => by simp [Env.get] at hp
  | (k, u) :: r, L, h, n, v, hp => by
    simp only [Env.get] at hp
    by_cases e : k = n
    · subst e
      rw [Nat.beq_refl] at hp
      rw [h.1]; exact hp
    · rw [beq_ne e] at hp
      exact Sub.mem h.2 n v hp

/-! ### Code -/
abbrev QPost := Exit → Env → List Nat → Heap → Prop

/-- From any frame of which L is known, over heap H, the code ends in one of Q's ways. -/
structure Wp (C : Cx) (c : Code) (Q : QPost) (L : Env) (ds : List Nat) (H : Heap) : Prop where
  out : ∀ a w, Sim C.u w → w.heap = H → Knows C.N L ds a →
    c.wpIn (FW C.ρ) 0 C.P (fun e a' w' => Sim C.u w' ∧ ∃ L' ds', Knows C.N L' ds' a' ∧ Q e L' ds' w'.heap) a w

theorem Wp.mono {C : Cx} {c : Code} {Q Q' : QPost} {L : Env} {ds : List Nat} {H : Heap} (h : Wp C c Q L ds H) (hq : ∀ e L ds H, Q e L ds H → Q' e L ds H) : Wp C c Q' L ds H :=
  ⟨fun a w s hw k => wpIn_mono (h.out a w s hw k) fun e a w ⟨s, L', ds', k, q⟩ => ⟨s, L', ds', k, hq _ _ _ _ q⟩⟩
theorem Wp.weaken {C : Cx} {c : Code} {Q : QPost} {L L' : Env} {ds : List Nat} {H : Heap} (h : Wp C c Q L' ds H) (hs : Sub L' L) : Wp C c Q L ds H :=
  ⟨fun a w s hw k => h.out a w s hw (k.weaken hs.mem)⟩
theorem Wp.skip {C : Cx} {Q : QPost} {L : Env} {ds : List Nat} {H : Heap} (h : Q .normal L ds H) : Wp C .skip Q L ds H :=
  ⟨fun a w s hw k => wpIn_skip ⟨s, L, ds, k, hw ▸ h⟩⟩
theorem Wp.ret {C : Cx} {Q : QPost} {L : Env} {ds : List Nat} {H : Heap} (h : Q .ret L ds H) : Wp C .ret Q L ds H :=
  ⟨fun a w s hw k => wpIn_ret ⟨s, L, ds, k, hw ▸ h⟩⟩
theorem Wp.exit {C : Cx} {Q : QPost} {L : Env} {ds : List Nat} {H : Heap} {id : Nat} (h : Q (.exit id) L ds H) : Wp C (.exit id) Q L ds H :=
  ⟨fun a w s hw k => wpIn_exit ⟨s, L, ds, k, hw ▸ h⟩⟩

/-- Behind a first part: on to the second. -/
def thenQ (C : Cx) (y : Code) (Q : QPost) : QPost
  | .normal, L, ds, H => Wp C y Q L ds H
  | e, L, ds, H => Q e L ds H
theorem Wp.seq {C : Cx} {x y : Code} {Q : QPost} {L : Env} {ds : List Nat} {H : Heap} (h : Wp C x (thenQ C y Q) L ds H) : Wp C (.seq x y) Q L ds H :=
  ⟨fun a w s hw k => wpIn_seq (wpIn_mono (h.out a w s hw k) fun e a w ⟨s, L', ds', k, q⟩ => by
    cases e <;> first | exact q.out a w s rfl k | exact ⟨s, L', ds', k, q⟩)⟩
/-- Two parts that meet at 'R'. -/
theorem Wp.cut {C : Cx} {x y : Code} {Q : QPost} {L : Env} {ds : List Nat} {H : Heap} (R : Env → List Nat → Heap → Prop)
    (h : Wp C x (fun e L ds H => match e with | .normal => R L ds H | e => Q e L ds H) L ds H) (k : ∀ L ds H, R L ds H → Wp C y Q L ds H) : Wp C (.seq x y) Q L ds H :=
  Wp.seq (h.mono fun e L ds H q => by cases e <;> first | exact k _ _ _ q | exact q)
def blockQ (id : Nat) (Q : QPost) : QPost
  | .exit id', L, ds, H => bif Nat.beq id' id then Q .normal L ds H else Q (.exit id') L ds H
  | e, L, ds, H => Q e L ds H
theorem Wp.block {C : Cx} {c : Code} {id : Nat} {Q : QPost} {L : Env} {ds : List Nat} {H : Heap} (h : Wp C c (blockQ id Q) L ds H) : Wp C (.block id c) Q L ds H :=
  ⟨fun a w s hw k => wpIn_block (wpIn_mono (h.out a w s hw k) fun e a w ⟨s, L', ds', k, q⟩ => by
    cases e with
    | exit id' =>
      simp only [blockQ] at q
      simp only [Exit.inBlock]
      cases hb : Nat.beq id' id with
      | true => rw [hb] at q; rw [if_pos (Nat.eq_of_beq_eq_true hb)]; exact ⟨s, L', ds', k, q⟩
      | false => rw [hb] at q; rw [if_neg (Nat.ne_of_beq_eq_false hb)]; exact ⟨s, L', ds', k, q⟩
    | _ => exact ⟨s, L', ds', k, q⟩)⟩
theorem Wp.cond {C : Cx} {x y : Code} {c : Operand} {b : Bool} {Q : QPost} {L : Env} {ds : List Nat} {H : Heap} (hc : L.ev c = some (.bool b))
    (ht : b = true → Wp C x Q L ds H) (hf : b = false → Wp C y Q L ds H) : Wp C (.cond c x y) Q L ds H :=
  ⟨fun a w s hw k => wpIn_cond (k.ev hc) (by cases b with | true => exact (ht rfl).out a w s hw k | false => exact (hf rfl).out a w s hw k)⟩
theorem Wp.cond_t {C : Cx} {x y : Code} {c : Operand} {Q : QPost} {L : Env} {ds : List Nat} {H : Heap} (hc : L.ev c = some (.bool true))
    (ht : Wp C x Q L ds H) : Wp C (.cond c x y) Q L ds H := Wp.cond hc (fun _ => ht) (fun h => by cases h)
theorem Wp.cond_f {C : Cx} {x y : Code} {c : Operand} {Q : QPost} {L : Env} {ds : List Nat} {H : Heap} (hc : L.ev c = some (.bool false))
    (hf : Wp C y Q L ds H) : Wp C (.cond c x y) Q L ds H := Wp.cond hc (fun h => by cases h) (fun _ => hf)
theorem Wp.cond_p {C : Cx} {x y : Code} {c : Operand} {p : Prop} {Q : QPost} {L : Env} {ds : List Nat} {H : Heap} (hc : L.ev c = some (.bool (dec p)))
    (ht : p → Wp C x Q L ds H) (hf : ¬p → Wp C y Q L ds H) : Wp C (.cond c x y) Q L ds H :=
  Wp.cond hc (fun h => ht (of_dec h)) (fun h => hf (of_not_dec h))

/-- Behind a round of a loop. -/
def roundQ {ι : Type} (env : ι → Env) (I : ι → Heap → Prop) (μ : ι → Nat) (x : ι) (ds : List Nat) (Q : QPost) : QPost
  | .normal, L, ds', H => ∃ y, Sub (env y) L ∧ ds' = ds ∧ I y H ∧ μ y < μ x
  | e, L, ds', H => Q e L ds' H
/-- A loop: at its head the frame shows 'env x', the heap 'I x', for some x whose measure falls. -/
theorem Wp.loop {ι : Type} (env : ι → Env) (I : ι → Heap → Prop) (μ : ι → Nat) (x₀ : ι) {C : Cx} {c : Code} {Q : QPost} {L : Env} {ds : List Nat} {H : Heap}
    (hL : Sub (env x₀) L) (h₀ : I x₀ H) (round : ∀ x H, I x H → Wp C c (roundQ env I μ x ds Q) (env x) ds H) : Wp C (.loop c) Q L ds H := by
  refine ⟨fun a w s hw k => ?_⟩
  have key : ∀ n x a w, μ x = n → Sim C.u w → I x w.heap → Knows C.N (env x) ds a →
      ∀ (b : Frame) (kk : List Item) (cs : List Frame), b.roundOf = (FW C.ρ).round → (FW C.ρ).fn b.fn → (FW C.ρ).room (cs.length + 1 + 0) →
      ∃ e a' w', (Sim C.u w' ∧ ∃ L' ds', Knows C.N L' ds' a' ∧ Q e L' ds' w'.heap) ∧
        ArrivesIn (Machine.fenced C.P (FW C.ρ)) C.P (lone (b.atR a (.code c :: .inLoop c :: kk)) cs w) b kk cs e a' w' := by
    intro n
    induction n using Nat.strongRecOn with
    | _ n ih =>
      intro x a w hn s hI k b kk cs hro hb hr
      obtain ⟨e, a₁, w₁, ⟨s₁, L', ds', k', hq⟩, harr⟩ := (round x w.heap hI).out a w s rfl k b (.inLoop c :: kk) cs hro hb hr
      cases e with
      | normal =>
        obtain ⟨y, hsub, rfl, hI₁, hlt⟩ := hq
        obtain ⟨e₂, a₂, w₂, hq₂, harr₂⟩ := ih (μ y) (hn ▸ hlt) y a₁ w₁ rfl s₁ hI₁ (k'.weaken hsub.mem) b kk cs hro hb hr
        exact ⟨e₂, a₂, w₂, hq₂, .of_steps (StepsIn.trans harr (.one (fenced_calm (fr := b.atR a₁ (.inLoop c :: kk)) hb hr rfl) stepR_inLoop)) harr₂⟩
      | exit id => exact ⟨_, a₁, w₁, ⟨s₁, L', ds', k', hq⟩, .pass (x := .inLoop c) rfl (fun _ _ => .inl (by simp)) harr⟩
      | goto l => exact ⟨_, a₁, w₁, ⟨s₁, L', ds', k', hq⟩, .pass (x := .inLoop c) rfl (fun _ _ => .inl (by simp)) harr⟩
      | ret => exact ⟨_, a₁, w₁, ⟨s₁, L', ds', k', hq⟩, .pass (x := .inLoop c) rfl (fun _ _ => .inl (by simp)) harr⟩
      | panic ch => exact ⟨_, a₁, w₁, ⟨s₁, L', ds', k', hq⟩, .pass (x := .inLoop c) rfl (fun _ _ => .inl (by simp)) harr⟩
      | outgrown => exact ⟨_, a₁, w₁, ⟨s₁, L', ds', k', hq⟩, .pass (x := .inLoop c) rfl (fun _ _ => .inl (by simp)) harr⟩
  intro b kk cs hro hb hr
  obtain ⟨e, a', w', hq, harr⟩ := key _ x₀ a w rfl s (hw ▸ h₀) (k.weaken hL.mem) b kk cs hro hb hr
  exact ⟨e, a', w', hq, .of_steps (.one (fenced_calm (fr := b.atR a (.code (.loop c) :: kk)) hb hr rfl) stepR_loop) harr⟩

section
variable {C : Cx} {y : Code} {Q : QPost} {L : Env} {ds : List Nat} {H : Heap}
theorem thenQ_n (h : Wp C y Q L ds H) : thenQ C y Q .normal L ds H := h
theorem thenQ_r (h : Q .ret L ds H) : thenQ C y Q .ret L ds H := h
theorem thenQ_e {id : Nat} (h : Q (.exit id) L ds H) : thenQ C y Q (.exit id) L ds H := h
theorem blockQ_n {id : Nat} (h : Q .normal L ds H) : blockQ id Q .normal L ds H := h
theorem blockQ_r {id : Nat} (h : Q .ret L ds H) : blockQ id Q .ret L ds H := h
theorem blockQ_t {id j : Nat} (hb : Nat.beq j id = true) (h : Q .normal L ds H) : blockQ id Q (.exit j) L ds H := by simp only [blockQ, hb]; exact h
theorem blockQ_f {id j : Nat} (hb : Nat.beq j id = false) (h : Q (.exit j) L ds H) : blockQ id Q (.exit j) L ds H := by simp only [blockQ, hb]; exact h
theorem roundQ_r {ι : Type} {env : ι → Env} {I : ι → Heap → Prop} {μ : ι → Nat} {x : ι} {ds0 : List Nat} (h : Q .ret L ds H) : roundQ env I μ x ds0 Q .ret L ds H := h
theorem roundQ_e {ι : Type} {env : ι → Env} {I : ι → Heap → Prop} {μ : ι → Nat} {x : ι} {ds0 : List Nat} {id : Nat} (h : Q (.exit id) L ds H) : roundQ env I μ x ds0 Q (.exit id) L ds H := h
theorem roundQ_n {ι : Type} {env : ι → Env} {I : ι → Heap → Prop} {μ : ι → Nat} {x : ι} (y : ι) (hs : Sub (env y) L) (hI : I y H) (hμ : μ y < μ x) : roundQ env I μ x ds Q .normal L ds H := ⟨y, hs, rfl, hI, hμ⟩
end
/-- Where two ways meet again. -/
def midQ {ι : Type} (env : ι → Env) (I : ι → Heap → Prop) (ds0 : List Nat) (Q : QPost) : QPost
  | .normal, L, ds, H => ds = ds0 ∧ ∃ i, Sub (env i) L ∧ I i H
  | e, L, ds, H => Q e L ds H
theorem Wp.mid {ι : Type} (env : ι → Env) (I : ι → Heap → Prop) {C : Cx} {x y : Code} {Q : QPost} {L : Env} {ds : List Nat} {H : Heap} (h : Wp C x (midQ env I ds Q) L ds H) (k : ∀ i H', I i H' → Wp C y Q (env i) ds H') : Wp C x (thenQ C y Q) L ds H :=
  h.mono fun e L' ds' H' q => by
    cases e with
    | normal => obtain ⟨rfl, i, hs, hI⟩ := q; simp only [thenQ]; exact (k i H' hI).weaken hs
    | _ => simp only [thenQ]; exact q
theorem midQ_n {ι : Type} {env : ι → Env} {I : ι → Heap → Prop} {ds : List Nat} {Q : QPost} {L : Env} {H : Heap} (i : ι) (hs : Sub (env i) L) (hI : I i H) : midQ env I ds Q .normal L ds H := ⟨rfl, i, hs, hI⟩
theorem midQ_r {ι : Type} {env : ι → Env} {I : ι → Heap → Prop} {ds ds0 : List Nat} {Q : QPost} {L : Env} {H : Heap} (h : Q .ret L ds H) : midQ env I ds0 Q .ret L ds H := h
theorem midQ_e {ι : Type} {env : ι → Env} {I : ι → Heap → Prop} {ds ds0 : List Nat} {Q : QPost} {L : Env} {H : Heap} {id : Nat} (h : Q (.exit id) L ds H) : midQ env I ds0 Q (.exit id) L ds H := h
attribute [irreducible] midQ
/-- A list of slots, reckoned to its form. -/
inductive Is : Env → Env → Prop
  | nil : Is [] []
  | cons {k : Nat} {v : Value} {r r' : Env} : Is r r' → Is ((k, v) :: r) ((k, v) :: r')
theorem Is.eq {A B : Env} (h : Is A B) : A = B := by
  induction h with
  | nil => rfl
  | cons _ ih => rw [ih]
/-- What a statement's end hands on. -/
def endK (C : Cx) (Q : QPost) (ds : List Nat) : Env → Heap → Prop := fun L' H' => Q .normal (Env.keep C.X L') ds H'
theorem endK_out {C : Cx} {Q : QPost} {ds : List Nat} {L : Env} {H : Heap} (h : endK C Q ds L H) : Q .normal (Env.keep C.X L) ds H := h
theorem endK_in {C : Cx} {Q : QPost} {ds : List Nat} {L L' : Env} {H : Heap} (hL : Is (Env.keep C.X L) L') (h : Q .normal L' ds H) : endK C Q ds L H := by
  unfold endK; rw [hL.eq]; exact h
/-- A scope of labels: nothing jumps out of it. -/
def scopeQ (Q : QPost) : QPost
  | .goto _, _, _, _ => False
  | e, L, ds, H => Q e L ds H
theorem stepV_scope {P : Program} {b : Frame} {a : Act} {k : List Item} {cs : List Frame} {w : World} {c : Code} : step P (lone (b.atR a (.code (.scope c) :: k)) cs w) = .next (lone (b.atR a (.code c :: .inScope c :: k)) cs w) :=
  step_lone_go (by simp [stepG, stepG.exec, Frame.atR])
theorem stepV_inScope {P : Program} {b : Frame} {a : Act} {k : List Item} {cs : List Frame} {w : World} {c : Code} : step P (lone (b.atR a (.inScope c :: k)) cs w) = .next (lone (b.atR a k) cs w) :=
  step_lone_go (by simp [stepG, stepG.exec, Frame.atR])
theorem Wp.scope {C : Cx} {c : Code} {Q : QPost} {L : Env} {ds : List Nat} {H : Heap} (h : Wp C c (scopeQ Q) L ds H) : Wp C (.scope c) Q L ds H := by
  refine ⟨fun a w s hw k b kk cs hro hb hr => ?_⟩
  have h0 : (lone (b.atR a (.code (.scope c) :: kk)) cs w).fenced C.P (FW C.ρ) := fenced_calm hb hr rfl
  obtain ⟨e, a₁, w₁, ⟨s₁, L', ds', k', hq⟩, harr⟩ := h.out a w s hw k b (.inScope c :: kk) cs hro hb hr
  cases e with
  | normal => exact ⟨.normal, a₁, w₁, ⟨s₁, L', ds', k', hq⟩, .head h0 stepV_scope (StepsIn.trans harr (.one (fenced_calm hb hr rfl) stepV_inScope))⟩
  | exit id' =>
    have hx : exitTo id' (.inScope c :: kk) = exitTo id' kk := by simp [exitTo]
    exact ⟨.exit id', a₁, w₁, ⟨s₁, L', ds', k', hq⟩, fun k'' hk => .head h0 stepV_scope (harr.1 k'' (by rw [hx]; exact hk)),
      fun hr' hk => let ⟨k₁, h1, h2⟩ := harr.2 hr' (by rw [hx]; exact hk); ⟨k₁, h1, .head h0 stepV_scope h2⟩⟩
  | goto l => exact hq.elim
  | ret => exact ⟨_, a₁, w₁, ⟨s₁, L', ds', k', hq⟩, .of_steps (.one h0 stepV_scope) harr⟩
  | panic ch => exact ⟨_, a₁, w₁, ⟨s₁, L', ds', k', hq⟩, .of_steps (.one h0 stepV_scope) harr⟩
  | outgrown => exact ⟨_, a₁, w₁, ⟨s₁, L', ds', k', hq⟩, .of_steps (.one h0 stepV_scope) harr⟩
theorem Wp.label {C : Cx} {Q : QPost} {L : Env} {ds : List Nat} {H : Heap} {l : Nat} (h : Q .normal L ds H) : Wp C (.label l) Q L ds H :=
  ⟨fun a w s hw k => wpIn_label ⟨s, L, ds, k, hw ▸ h⟩⟩
section
variable {Q : QPost} {L : Env} {ds : List Nat} {H : Heap}
theorem scopeQ_n (h : Q .normal L ds H) : scopeQ Q .normal L ds H := h
theorem scopeQ_r (h : Q .ret L ds H) : scopeQ Q .ret L ds H := h
theorem scopeQ_e {id : Nat} (h : Q (.exit id) L ds H) : scopeQ Q (.exit id) L ds H := h
end
attribute [irreducible] thenQ blockQ roundQ endK scopeQ
end Go.Vc
