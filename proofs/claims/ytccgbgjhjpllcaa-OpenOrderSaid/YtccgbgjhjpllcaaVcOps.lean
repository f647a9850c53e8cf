/-
  The calculus, part 4: one law for each kind of operation that only yields a value.
-/
import Derived.Test.YtccgbgjhjpllcaaVcFun
import Derived.Laws.Cover3
import Derived.Laws.Small
set_option linter.unusedVariables false
set_option linter.unusedSimpArgs false
namespace Go.Vc

/-! ### The table of types -/
/-- Cells told in runs. -/
def rl (l : List (Nat × Value)) : Array Value := (l.flatMap fun p => List.replicate p.1 p.2).toArray
structure TI where
  desc : TypeDesc
  size : Nat
  bytes : Nat
  zero : Value
/-- A table by halves. -/
inductive TT where
  | no
  | leaf (k : Nat) (v : TI)
  | node (m : Nat) (l r : TT)
def tfind : TT → Nat → Option TI
  | .no, _ => none
  | .leaf k v, n => bif Nat.beq k n then some v else none
  | .node m l r, n => bif Nat.blt n m then tfind l n else tfind r n
def TIok (P : Program) (t : Nat) (i : TI) : Prop := P.underlying t = some i.desc ∧ (P.info? t).map (fun j => (j.zero, j.size, j.bytes)) = some (some i.zero, i.size, i.bytes)
def TblOk (P : Program) : TT → Prop
  | .no => True
  | .leaf t i => TIok P t i
  | .node _ l r => TblOk P l ∧ TblOk P r
theorem TblOk.find {P : Program} : ∀ {l : TT} {t : Nat} {i : TI}, TblOk P l → tfind l t = some i → TIok P t i
  | .no, _, _, _, h => by simp [tfind] at h
  | .leaf k v, t, i, h, hf => by
    simp only [tfind] at hf
    cases hb : Nat.beq k t with
    | true =>
      rw [hb] at hf
      simp only [cond_true, Option.some.injEq] at hf
      have := Nat.eq_of_beq_eq_true hb
      subst this; subst hf
      exact h
    | false => rw [hb] at hf; simp at hf
  | .node m l r, t, i, h, hf => by
    simp only [tfind] at hf
    cases hb : Nat.blt t m with
    | true => rw [hb] at hf; exact TblOk.find h.1 hf
    | false => rw [hb] at hf; exact TblOk.find h.2 hf
class Tbl (P : Program) where
  tb : TT
  ok : TblOk P tb
abbrev ty (P : Program) [Tbl P] (t : Nat) : Option TI := tfind (Tbl.tb P) t

section
variable {P : Program}
theorem run_und {t : Nat} {d : TypeDesc} (h : P.underlying t = some d) (w : World) : (underlying t).run P w = .ok d w := by
  simp [underlying, program, Sem.run, h]
variable [Tbl P]
theorem ty.und {t : Nat} {i : TI} (h : ty P t = some i) (w : World) : (underlying t).run P w = .ok i.desc w := run_und (Tbl.ok.find h).1 w
theorem ty.info {t : Nat} {i : TI} (h : ty P t = some i) : ∃ j, P.info? t = some j ∧ j.zero = some i.zero ∧ j.size = i.size ∧ j.bytes = i.bytes := by
  have := (Tbl.ok.find h).2
  cases hj : P.info? t with
  | none => rw [hj] at this; simp at this
  | some j => rw [hj] at this; simp at this; exact ⟨j, rfl, this⟩
theorem ty.sizeOf {t : Nat} {i : TI} (h : ty P t = some i) (w : World) : (sizeOf t).run P w = .ok i.size w := by
  obtain ⟨j, hj, _, hs, _⟩ := ty.info h
  simp [Go.sizeOf, typeInfo, program, Sem.run, hj, hs]
theorem ty.typeInfo {t : Nat} {i : TI} (h : ty P t = some i) (w : World) : ∃ j, (typeInfo t).run P w = .ok j w ∧ j.zero = some i.zero ∧ j.size = i.size ∧ j.bytes = i.bytes := by
  obtain ⟨j, hj, hr⟩ := ty.info h
  exact ⟨j, by simp [Go.typeInfo, program, Sem.run, hj], hr⟩
theorem ty.zero {t : Nat} {i : TI} (h : ty P t = some i) (w : World) : (zeroValue t).run P w = .ok i.zero w := by
  obtain ⟨j, hj, hz, _⟩ := ty.info h
  simp [zeroValue, Go.typeInfo, program, Sem.run, hj, hz]
def isAggD : TypeDesc → Bool
  | .struct _ | .array _ _ => true
  | _ => false
theorem ty.agg {t : Nat} {i : TI} (h : ty P t = some i) (w : World) : (isAgg t).run P w = .ok (isAggD i.desc) w := by
  unfold isAgg
  simp only [Sem.run_bind, ty.und h, Result.andThen]
  cases i.desc <;> rfl
end

/-! ### Cells -/
def hcell (H : Heap) (a : Addr) : Option Value :=
  match H[a.block]? with
  | some (.cells c _ _) => if a.spot.isSome then none else c[a.off]?
  | _ => none
theorem cell_heap (w : World) (a : Addr) : w.cell? a = hcell w.heap a := rfl
theorem hcell_lt {H : Heap} {a : Addr} {v : Value} (h : hcell H a = some v) : a.block < H.size := by
  unfold hcell at h
  split at h
  · rename_i hb; exact (Array.getElem?_eq_some_iff.1 hb).1
  · cases h
theorem hcell_block {H H' : Heap} {a : Addr} (h : H'[a.block]? = H[a.block]?) : hcell H' a = hcell H a := by
  unfold hcell; rw [h]
/-- A block of cells, nobody's but this one's. -/
theorem blk_cell {H : Heap} {b j : Nat} {c : Array Value} {e : TypeId} {fz : Nat × Nat} (h : H[b]? = some (.cells c e fz)) : hcell H ⟨b, j, none⟩ = c[j]? := by
  unfold hcell; simp [h]
/-- A struct in a block of its own: its cells. -/
structure Blk (H : Heap) (b : Nat) (e : TypeId) (vs : List Value) : Prop where
  at_ : H[b]? = some (.cells vs.toArray e (0, 0))
def vget : List Value → Nat → Option Value
  | [], _ => none
  | v :: _, 0 => some v
  | _ :: r, n + 1 => vget r n
theorem vget_eq : ∀ (l : List Value) (n : Nat), vget l n = l[n]?
  | [], _ => rfl
  | _ :: _, 0 => rfl
  | _ :: r, n + 1 => by rw [vget, vget_eq r n]; rfl
theorem Blk.cell {H : Heap} {b j : Nat} {e : TypeId} {vs : List Value} {v : Value} (h : Blk H b e vs) (hv : vget vs j = some v) : hcell H ⟨b, j, none⟩ = some v := by
  rw [blk_cell h.at_]
  rw [vget_eq] at hv
  simpa using hv
theorem Blk.ext {H H' : Heap} {b : Nat} {e : TypeId} {vs : List Value} (h : Blk H b e vs) (x : Ext H H') : Blk H' b e vs := ⟨x.blk h.at_⟩
theorem Blk.lt {H : Heap} {b : Nat} {e : TypeId} {vs : List Value} (h : Blk H b e vs) : b < H.size := (Array.getElem?_eq_some_iff.1 h.at_).1
theorem Ext.cell {H H' : Heap} (e : Ext H H') {a : Addr} {v : Value} (h : hcell H a = some v) : hcell H' a = some v :=
  (hcell_block (e.get _ (hcell_lt h))).trans h
/-- The k-th cell of a slice's array, from the slice's begin on. -/
@[irreducible] def Sl.cell (s : Sl) (k : Nat) : Addr := (s.ao.getD default).add k
def Sl.blk (s : Sl) : Option Nat := s.ao.map (·.block)
theorem add_add (a : Addr) (m n : Nat) : (a.add m).add n = a.add (m + n) := by
  unfold Addr.add
  by_cases hm : m = 0
  · subst hm; simp
  · by_cases hn : n = 0
    · subst hn; simp
    · have : m + n ≠ 0 := by omega
      simp [hm, hn, this, Nat.add_assoc]
theorem Sl.cell_eq (s : Sl) (k : Nat) : s.cell k = (s.ao.getD default).add k := by unfold Sl.cell; rfl
theorem Sl.cell_add (s : Sl) (k n : Nat) : (s.cell k).add n = s.cell (k + n) := by rw [Sl.cell_eq, Sl.cell_eq]; exact add_add _ _ _
theorem add_plain (b o n : Nat) : (⟨b, o, none⟩ : Addr).add n = ⟨b, o + n, none⟩ := by
  unfold Addr.add
  split
  · rename_i h; subst h; rfl
  · rfl

/-! ### Operations that yield a value -/
section
variable {C : Cx} {o : Oper} {L : Env} {H : Heap}

theorem Rd.of {v : Value} (hd : Op.isDefer o.op = false) (h : ∀ a w, Agr o L a → Ext H w.heap → (execOp a.eval o).run C.P w = .ok (.value v) w) : Rd C o L H v :=
  ⟨hd, fun _ e a w hw ha => h a w ha (hw ▸ e)⟩
theorem agr_of {a : Act} (ha : Agr o L a) {x : Operand} {v : Value} (hx : L.ev x = some v) (hm : x ∈ o.op.operands) : a.eval x = v := ha x hm v hx

theorem Rd.move {x : Operand} {v : Value} (ho : o.op = .move x) (hx : L.ev x = some v) : Rd C o L H v :=
  Rd.of (by rw [ho]; rfl) fun a w ha e => by
    have h1 := agr_of ha hx (by rw [ho]; simp [Op.operands])
    simp [execOp, ho, h1, Sem.run]
theorem Rd.assign {x : Operand} {v : Value} (ho : o.op = .assign x) (hx : L.ev x = some v) : Rd C o L H v :=
  Rd.of (by rw [ho]; rfl) fun a w ha e => by
    have h1 := agr_of ha hx (by rw [ho]; simp [Op.operands])
    simp [execOp, ho, h1, Sem.run]
theorem Rd.assign8 {n : Nat} (ho : o.op = .assign (.const (.int .u8 (.ofNat n)))) (hn : Nat.blt n 256 = true) : Rd C o L H (B8 (@OfNat.ofNat UInt8 n UInt8.instOfNat)) := by
  refine Rd.assign ho ?_
  simp only [Env.ev, norm, hn, cond_true]
theorem Rd.assignN (ho : o.op = .assign (.const (.slice none 0 0))) : Rd C o L H Sl.nil.val := Rd.assign ho rfl
theorem Rd.assignB {b : Bool} (ho : o.op = .assign (.const (.bool b))) : Rd C o L H (.bool b) := Rd.assign ho rfl
theorem Rd.assignP (ho : o.op = .assign (.const (.pointer none))) : Rd C o L H (.pointer none) := Rd.assign ho rfl
theorem Rd.pick {c x y : Operand} {b : Bool} {v u : Value} (ho : o.op = .pick c x y) (hc : L.ev c = some (.bool b)) (hx : b = true → L.ev x = some v) (hy : b = false → L.ev y = some v) : Rd C o L H v :=
  Rd.of (by rw [ho]; rfl) fun a w ha e => by
    have h1 := agr_of ha hc (by rw [ho]; simp [Op.operands])
    cases b with
    | true =>
      have h2 := agr_of ha (hx rfl) (by rw [ho]; simp [Op.operands])
      simp [execOp, ho, h1, h2, asBool, Sem.run]
    | false =>
      have h2 := agr_of ha (hy rfl) (by rw [ho]; simp [Op.operands])
      simp [execOp, ho, h1, h2, asBool, Sem.run]
theorem Rd.pick_t {c x y : Operand} {v : Value} (ho : o.op = .pick c x y) (hc : L.ev c = some (.bool true)) (hx : L.ev x = some v) : Rd C o L H v :=
  Rd.pick (u := v) ho hc (fun _ => hx) (fun h => by cases h)
theorem Rd.pick_f {c x y : Operand} {v : Value} (ho : o.op = .pick c x y) (hc : L.ev c = some (.bool false)) (hy : L.ev y = some v) : Rd C o L H v :=
  Rd.pick (u := v) ho hc (fun h => by cases h) (fun _ => hy)
theorem Rd.nilCheck {x : Operand} {p : Addr} (ho : o.op = .nilCheck x) (hx : L.ev x = some (.pointer (some p))) : Rd C o L H (.pointer (some p)) :=
  Rd.of (by rw [ho]; rfl) fun a w ha e => by
    have h1 := agr_of ha hx (by rw [ho]; simp [Op.operands])
    simp [execOp, ho, h1, Sem.run]
theorem Rd.nilCheckF {x : Operand} {f : FuncId} {c d : Array Value} (ho : o.op = .nilCheck x) (hx : L.ev x = some (.func (.func f) c d)) : Rd C o L H (.func (.func f) c d) :=
  Rd.of (by rw [ho]; rfl) fun a w ha e => by
    have h1 := agr_of ha hx (by rw [ho]; simp [Op.operands])
    simp [execOp, ho, h1, Sem.run]

/-! whole numbers -/
theorem run_arith {op : BinOp} {k : IntKind} {x y : Int} {r : Int} (h : (op, r) = (.add, k.wrap (x + y)) ∨ (op, r) = (.sub, k.wrap (x - y)) ∨ (op, r) = (.mul, k.wrap (x * y))) (t : TypeId) (u v : Operand) (w : World) :
    (do eqGuard op t u v (.int k x) (.int k y); binOp op t (.int k x) (.int k y) : Sem Value).run C.P w = .ok (.int k r) w := by
  rcases h with h | h | h <;> (simp only [Prod.mk.injEq] at h; obtain ⟨rfl, rfl⟩ := h; simp [eqGuard, binOp, Op.intArith, Sem.run])
theorem Rd.arith {op : BinOp} {k : IntKind} {x y r : Int} {t t' : TypeId} {u v : Operand} (ho : o.op = .binOp op t u v t') (hu : L.ev u = some (.int k x)) (hv : L.ev v = some (.int k y))
    (h : (op, r) = (.add, k.wrap (x + y)) ∨ (op, r) = (.sub, k.wrap (x - y)) ∨ (op, r) = (.mul, k.wrap (x * y))) : Rd C o L H (.int k r) :=
  Rd.of (by rw [ho]; rfl) fun a w ha e => by
    have h1 := agr_of ha hu (by rw [ho]; simp [Op.operands])
    have h2 := agr_of ha hv (by rw [ho]; simp [Op.operands])
    have := run_arith (C := C) h t u v w
    simp only [execOp, ho, h1, h2, Sem.run_bind, Result.andThen] at this ⊢
    rw [this]; rfl
theorem wrap64 {n : Int} (h1 : -9223372036854775808 ≤ n) (h2 : n ≤ 9223372036854775807) : IntKind.i64.wrap n = n := by
  rw [IntKind.wrap_i64]; omega
theorem Rd.add {x y : Int} {t t' : TypeId} {u v : Operand} (ho : o.op = .binOp .add t u v t') (hu : L.ev u = some (.int .i64 x)) (hv : L.ev v = some (.int .i64 y))
    (h : -9223372036854775808 ≤ x + y ∧ x + y ≤ 9223372036854775807) : Rd C o L H (.int .i64 (x + y)) :=
  Rd.arith ho hu hv (.inl (by rw [wrap64 h.1 h.2]))
theorem Rd.sub {x y : Int} {t t' : TypeId} {u v : Operand} (ho : o.op = .binOp .sub t u v t') (hu : L.ev u = some (.int .i64 x)) (hv : L.ev v = some (.int .i64 y))
    (h : -9223372036854775808 ≤ x - y ∧ x - y ≤ 9223372036854775807) : Rd C o L H (.int .i64 (x - y)) :=
  Rd.arith ho hu hv (.inr (.inl (by rw [wrap64 h.1 h.2])))
theorem Rd.mul {x y : Int} {t t' : TypeId} {u v : Operand} (ho : o.op = .binOp .mul t u v t') (hu : L.ev u = some (.int .i64 x)) (hv : L.ev v = some (.int .i64 y))
    (h : -9223372036854775808 ≤ x * y ∧ x * y ≤ 9223372036854775807) : Rd C o L H (.int .i64 (x * y)) :=
  Rd.arith ho hu hv (.inr (.inr (by rw [wrap64 h.1 h.2])))

theorem Rd.addN {m n : Nat} {t t' : TypeId} {u v : Operand} (ho : o.op = .binOp .add t u v t') (hu : L.ev u = some (.int .i64 (m : Int))) (hv : L.ev v = some (.int .i64 (n : Int)))
    (h : m + n ≤ 9223372036854775807) : Rd C o L H (.int .i64 ((m + n : Nat) : Int)) :=
  Rd.arith ho hu hv (.inl (by rw [wrap64 (by omega) (by omega)]; simp))
theorem Rd.subN {m n : Nat} {t t' : TypeId} {u v : Operand} (ho : o.op = .binOp .sub t u v t') (hu : L.ev u = some (.int .i64 (m : Int))) (hv : L.ev v = some (.int .i64 (n : Int)))
    (h : n ≤ m ∧ m ≤ 9223372036854775807) : Rd C o L H (.int .i64 ((m - n : Nat) : Int)) :=
  Rd.arith ho hu hv (.inr (.inl (by rw [wrap64 (by omega) (by omega), Int.ofNat_sub h.1])))

/-! comparisons: each a decided proposition -/
theorem run_cmp {op : BinOp} {k : IntKind} {x y : Int} {b : Bool} (h : (op, b) = (.eql, x == y) ∨ (op, b) = (.neq, x != y) ∨ (op, b) = (.lss, decide (x < y)) ∨ (op, b) = (.leq, decide (x ≤ y)) ∨ (op, b) = (.gtr, decide (x > y)) ∨ (op, b) = (.geq, decide (x ≥ y)))
    (t : TypeId) (u v : Operand) (w : World) : (do eqGuard op t u v (.int k x) (.int k y); binOp op t (.int k x) (.int k y) : Sem Value).run C.P w = .ok (.bool b) w := by
  rcases h with h | h | h | h | h | h <;> (simp only [Prod.mk.injEq] at h; obtain ⟨rfl, rfl⟩ := h; simp [eqGuard, binOp, Op.intCmp, Sem.run])
theorem Rd.cmp {op : BinOp} {k : IntKind} {x y : Int} {b : Bool} {t t' : TypeId} {u v : Operand} (ho : o.op = .binOp op t u v t') (hu : L.ev u = some (.int k x)) (hv : L.ev v = some (.int k y))
    (h : (op, b) = (.eql, x == y) ∨ (op, b) = (.neq, x != y) ∨ (op, b) = (.lss, decide (x < y)) ∨ (op, b) = (.leq, decide (x ≤ y)) ∨ (op, b) = (.gtr, decide (x > y)) ∨ (op, b) = (.geq, decide (x ≥ y))) : Rd C o L H (.bool b) :=
  Rd.of (by rw [ho]; rfl) fun a w ha e => by
    have h1 := agr_of ha hu (by rw [ho]; simp [Op.operands])
    have h2 := agr_of ha hv (by rw [ho]; simp [Op.operands])
    have := run_cmp (C := C) (k := k) h t u v w
    simp only [execOp, ho, h1, h2, Sem.run_bind, Result.andThen] at this ⊢
    rw [this]; rfl
theorem beqd (x y : Int) : (x == y) = decide (x = y) := rfl
theorem Rd.eql {k : IntKind} {x y : Int} {t t' : TypeId} {u v : Operand} (ho : o.op = .binOp .eql t u v t') (hu : L.ev u = some (.int k x)) (hv : L.ev v = some (.int k y)) : Rd C o L H (.bool (dec (x = y))) :=
  Rd.cmp ho hu hv (.inl (by rw [beqd, dec_decide]))
theorem Rd.neq {k : IntKind} {x y : Int} {t t' : TypeId} {u v : Operand} (ho : o.op = .binOp .neq t u v t') (hu : L.ev u = some (.int k x)) (hv : L.ev v = some (.int k y)) : Rd C o L H (.bool (dec (x ≠ y))) :=
  Rd.cmp ho hu hv (.inr (.inl (by rw [bne, beqd, ← decide_not, dec_decide])))
theorem Rd.lss {k : IntKind} {x y : Int} {t t' : TypeId} {u v : Operand} (ho : o.op = .binOp .lss t u v t') (hu : L.ev u = some (.int k x)) (hv : L.ev v = some (.int k y)) : Rd C o L H (.bool (dec (x < y))) :=
  Rd.cmp ho hu hv (.inr (.inr (.inl (by rw [dec_decide]))))
theorem Rd.leq {k : IntKind} {x y : Int} {t t' : TypeId} {u v : Operand} (ho : o.op = .binOp .leq t u v t') (hu : L.ev u = some (.int k x)) (hv : L.ev v = some (.int k y)) : Rd C o L H (.bool (dec (x ≤ y))) :=
  Rd.cmp ho hu hv (.inr (.inr (.inr (.inl (by rw [dec_decide])))))
theorem Rd.gtr {k : IntKind} {x y : Int} {t t' : TypeId} {u v : Operand} (ho : o.op = .binOp .gtr t u v t') (hu : L.ev u = some (.int k x)) (hv : L.ev v = some (.int k y)) : Rd C o L H (.bool (dec (y < x))) :=
  Rd.cmp ho hu hv (.inr (.inr (.inr (.inr (.inl (by rw [dec_decide]))))))
theorem Rd.geq {k : IntKind} {x y : Int} {t t' : TypeId} {u v : Operand} (ho : o.op = .binOp .geq t u v t') (hu : L.ev u = some (.int k x)) (hv : L.ev v = some (.int k y)) : Rd C o L H (.bool (dec (y ≤ x))) :=
  Rd.cmp ho hu hv (.inr (.inr (.inr (.inr (.inr (by rw [dec_decide]))))))

/-! bytes -/
theorem B8_eq {b c : UInt8} : ((b.toNat : Int) = (c.toNat : Int)) ↔ b = c := by
  constructor
  · intro h; exact UInt8.toNat_inj.1 (by omega)
  · rintro rfl; rfl
theorem Rd.eql8 {x y : UInt8} {t t' : TypeId} {u v : Operand} (ho : o.op = .binOp .eql t u v t') (hu : L.ev u = some (B8 x)) (hv : L.ev v = some (B8 y)) : Rd C o L H (.bool (dec (x = y))) :=
  Rd.cmp (k := .u8) ho hu hv (.inl (congrArg (Prod.mk _) (by rw [beqd, dec_decide]; exact (dec_congr B8_eq).symm)))
theorem Rd.neq8 {x y : UInt8} {t t' : TypeId} {u v : Operand} (ho : o.op = .binOp .neq t u v t') (hu : L.ev u = some (B8 x)) (hv : L.ev v = some (B8 y)) : Rd C o L H (.bool (dec (x ≠ y))) :=
  Rd.cmp (k := .u8) ho hu hv (.inr (.inl (congrArg (Prod.mk _) (by rw [bne, beqd, ← decide_not, dec_decide]; exact (dec_congr (not_congr B8_eq)).symm))))
theorem run_bits {op : BinOp} {k : IntKind} {x y r : Int}
    (h : (op, r) = (.and, k.wrap (BitVec.ofInt k.bits x &&& BitVec.ofInt k.bits y).toNat) ∨ (op, r) = (.or, k.wrap (BitVec.ofInt k.bits x ||| BitVec.ofInt k.bits y).toNat) ∨ (op, r) = (.xor, k.wrap (BitVec.ofInt k.bits x ^^^ BitVec.ofInt k.bits y).toNat))
    (t : TypeId) (u v : Operand) (w : World) : (do eqGuard op t u v (.int k x) (.int k y); binOp op t (.int k x) (.int k y) : Sem Value).run C.P w = .ok (.int k r) w := by
  rcases h with h | h | h <;> (simp only [Prod.mk.injEq] at h; obtain ⟨rfl, rfl⟩ := h; simp [eqGuard, binOp, Op.intBits, Sem.run])
theorem Rd.bits {op : BinOp} {k : IntKind} {x y r : Int} {t t' : TypeId} {u v : Operand} (ho : o.op = .binOp op t u v t') (hu : L.ev u = some (.int k x)) (hv : L.ev v = some (.int k y))
    (h : (op, r) = (.and, k.wrap (BitVec.ofInt k.bits x &&& BitVec.ofInt k.bits y).toNat) ∨ (op, r) = (.or, k.wrap (BitVec.ofInt k.bits x ||| BitVec.ofInt k.bits y).toNat) ∨ (op, r) = (.xor, k.wrap (BitVec.ofInt k.bits x ^^^ BitVec.ofInt k.bits y).toNat)) : Rd C o L H (.int k r) :=
  Rd.of (by rw [ho]; rfl) fun a w ha e => by
    have h1 := agr_of ha hu (by rw [ho]; simp [Op.operands])
    have h2 := agr_of ha hv (by rw [ho]; simp [Op.operands])
    have := run_bits (C := C) h t u v w
    simp only [execOp, ho, h1, h2, Sem.run_bind, Result.andThen] at this ⊢
    rw [this]; rfl
theorem wrapU8 (n : Nat) (h : n < 256) : IntKind.u8.wrap (n : Int) = n := by
  simp [IntKind.wrap, IntKind.signed, IntKind.bits]; omega
theorem bv8 (x : UInt8) : BitVec.ofInt 8 (x.toNat : Int) = x.toBitVec := by
  apply BitVec.eq_of_toNat_eq
  have := x.toNat_lt
  simp only [BitVec.toNat_ofInt, UInt8.toNat_toBitVec]
  omega
theorem Rd.xor8 {x y : UInt8} {t t' : TypeId} {u v : Operand} (ho : o.op = .binOp .xor t u v t') (hu : L.ev u = some (B8 x)) (hv : L.ev v = some (B8 y)) : Rd C o L H (B8 (x ^^^ y)) :=
  Rd.bits (k := .u8) ho hu hv (.inr (.inr (by
    have : (BitVec.ofInt IntKind.u8.bits (x.toNat : Int) ^^^ BitVec.ofInt IntKind.u8.bits (y.toNat : Int)).toNat = (x ^^^ y).toNat := by
      show (BitVec.ofInt 8 _ ^^^ BitVec.ofInt 8 _).toNat = _
      rw [bv8, bv8]; rfl
    rw [this, wrapU8 _ (x ^^^ y).toNat_lt])))
theorem Rd.add8 {x y : UInt8} {t t' : TypeId} {u v : Operand} (ho : o.op = .binOp .add t u v t') (hu : L.ev u = some (B8 x)) (hv : L.ev v = some (B8 y)) : Rd C o L H (B8 (x + y)) :=
  Rd.arith (k := .u8) ho hu hv (.inl (by
    rw [UInt8.toNat_add]
    simp only [IntKind.wrap, IntKind.signed, IntKind.bits]
    simp))
theorem Rd.geq8 {x y : UInt8} {t t' : TypeId} {u v : Operand} (ho : o.op = .binOp .geq t u v t') (hu : L.ev u = some (B8 x)) (hv : L.ev v = some (B8 y)) : Rd C o L H (.bool (dec (y ≤ x))) :=
  Rd.cmp (k := .u8) ho hu hv (.inr (.inr (.inr (.inr (.inr (by
    have : ((x.toNat : Int) ≥ (y.toNat : Int)) ↔ y ≤ x := by rw [UInt8.le_iff_toNat_le]; omega
    rw [dec_decide]; exact congrArg _ (dec_congr this).symm))))))
/-- A shift by a constant. -/
theorem Rd.shl8 {x : UInt8} {n : Nat} {k : IntKind} {t t' : TypeId} {u v : Operand} (ho : o.op = .binOp .shl t u v t') (hu : L.ev u = some (B8 x)) (hv : L.ev v = some (.int k (n : Int))) (hn : n < 8) : Rd C o L H (B8 (x <<< UInt8.ofNat n)) :=
  Rd.of (by rw [ho]; rfl) fun a w ha e => by
    have h1 := agr_of ha hu (by rw [ho]; simp [Op.operands])
    have h2 := agr_of ha hv (by rw [ho]; simp [Op.operands])
    have e1 : (IntKind.u8.wrap ((x.toNat : Int) * 2 ^ n)) = ((x <<< UInt8.ofNat n).toNat : Int) := by
      have h3 : (x <<< UInt8.ofNat n).toNat = x.toNat * 2 ^ n % 256 := by
        rw [UInt8.toNat_shiftLeft, UInt8.toNat_ofNat', Nat.shiftLeft_eq]
        have : n % 2 ^ 8 % 8 = n := by omega
        rw [this]
      rw [h3]
      simp only [IntKind.wrap, IntKind.signed, IntKind.bits]
      simp
    have e2 : min n IntKind.u8.bits = n := by simp [IntKind.bits]; omega
    have e3 : ¬ ((n : Int) < 0) := by omega
    simp only [B8] at h1
    simp only [execOp, ho, h1, h2, Sem.run_bind, Result.andThen]
    simp [eqGuard, binOp, Op.shift, Sem.run, e3, e1, e2, B8]

theorem Rd.not {x : Operand} {b : Bool} {t : TypeId} (ho : o.op = .unOp .not t x) (hx : L.ev x = some (.bool b)) : Rd C o L H (.bool !b) :=
  Rd.of (by rw [ho]; rfl) fun a w ha e => by
    have h1 := agr_of ha hx (by rw [ho]; simp [Op.operands])
    simp [execOp, ho, h1, Op.unary, Sem.run]
theorem Rd.not_p {x : Operand} {p : Prop} {t : TypeId} (ho : o.op = .unOp .not t x) (hx : L.ev x = some (.bool (dec p))) : Rd C o L H (.bool (dec (¬p))) := by
  have := Rd.not (C := C) (H := H) ho hx
  rwa [dec_not] at this

/-! conversions of numbers -/
theorem Rd.conv8 [Tbl C.P] {x : Operand} {b : UInt8} {s d : TypeId} {i j : TI} (ho : o.op = .convert s d x) (hx : L.ev x = some (B8 b)) (hs : ty C.P s = some i) (hd : ty C.P d = some j) (hj : j.desc = .int .i64) : Rd C o L H (.int .i64 (b.toNat : Int)) :=
  Rd.of (by rw [ho]; rfl) fun a w ha e => by
    have h1 := agr_of ha hx (by rw [ho]; simp [Op.operands])
    simp only [B8] at h1
    have hb := b.toNat_lt
    simp only [execOp, ho, h1, convert, Sem.run_bind, ty.und hs, ty.und hd, Result.andThen, hj]
    simp [Conv.intToInt, Sem.run]
    exact wrap64 (by omega) (by omega)
theorem Rd.to8 [Tbl C.P] {x : Operand} {k : IntKind} {n : Int} {s d : TypeId} {i j : TI} (ho : o.op = .convert s d x) (hx : L.ev x = some (.int k n)) (hs : ty C.P s = some i) (hd : ty C.P d = some j) (hj : j.desc = .int .u8) : Rd C o L H (B8 (UInt8.ofNat (n % 256).toNat)) :=
  Rd.of (by rw [ho]; rfl) fun a w ha e => by
    have h1 := agr_of ha hx (by rw [ho]; simp [Op.operands])
    simp only [execOp, ho, h1, convert, Sem.run_bind, ty.und hs, ty.und hd, Result.andThen, hj]
    have : IntKind.u8.wrap n = ((UInt8.ofNat (n % 256).toNat).toNat : Int) := by
      simp [IntKind.wrap, IntKind.signed, IntKind.bits, UInt8.toNat_ofNat']; omega
    simp [Conv.intToInt, Sem.run, this, B8]

theorem Rd.to8N [Tbl C.P] {x : Operand} {k : IntKind} {n : Nat} {s d : TypeId} {i j : TI} (ho : o.op = .convert s d x) (hx : L.ev x = some (.int k (n : Int))) (hs : ty C.P s = some i) (hd : ty C.P d = some j) (hj : j.desc = .int .u8) : Rd C o L H (B8 (UInt8.ofNat n)) :=
  Rd.of (by rw [ho]; rfl) fun a w ha e => by
    have h1 := agr_of ha hx (by rw [ho]; simp [Op.operands])
    simp only [execOp, ho, h1, convert, Sem.run_bind, ty.und hs, ty.und hd, Result.andThen, hj]
    have : IntKind.u8.wrap (n : Int) = ((UInt8.ofNat n).toNat : Int) := by
      simp [IntKind.wrap, IntKind.signed, IntKind.bits, UInt8.toNat_ofNat']
    simp [Conv.intToInt, Sem.run, this, B8]
theorem Rd.convN [Tbl C.P] {x : Operand} {k k' : IntKind} {n : Nat} {s d : TypeId} {i : TI} {sz bt : Nat} {z : Value} (ho : o.op = .convert s d x) (hx : L.ev x = some (.int k (n : Int))) (hs : ty C.P s = some i) (hd : ty C.P d = some ⟨.int k', sz, bt, z⟩) (hw : k'.wrap (n : Int) = n) : Rd C o L H (.int k' (n : Int)) :=
  Rd.of (by rw [ho]; rfl) fun a w ha e => by
    have h1 := agr_of ha hx (by rw [ho]; simp [Op.operands])
    simp only [execOp, ho, h1, convert, Sem.run_bind, ty.und hs, ty.und hd, Result.andThen]
    simp [Conv.intToInt, Sem.run, hw]
theorem wrapU64 {n : Nat} (h : n < 18446744073709551616) : IntKind.u64.wrap (n : Int) = n := by
  simp [IntKind.wrap, IntKind.signed, IntKind.bits]; omega
theorem Rd.convU64 [Tbl C.P] {x : Operand} {k : IntKind} {n : Nat} {s d : TypeId} {i : TI} {sz bt : Nat} {z : Value} (ho : o.op = .convert s d x) (hx : L.ev x = some (.int k (n : Int))) (hs : ty C.P s = some i) (hd : ty C.P d = some ⟨.int .u64, sz, bt, z⟩) (hw : n < 18446744073709551616) : Rd C o L H (.int .u64 (n : Int)) :=
  Rd.convN ho hx hs hd (wrapU64 hw)
theorem Rd.convI64 [Tbl C.P] {x : Operand} {k : IntKind} {n : Nat} {s d : TypeId} {i : TI} {sz bt : Nat} {z : Value} (ho : o.op = .convert s d x) (hx : L.ev x = some (.int k (n : Int))) (hs : ty C.P s = some i) (hd : ty C.P d = some ⟨.int .i64, sz, bt, z⟩) (hw : n ≤ 9223372036854775807) : Rd C o L H (.int .i64 (n : Int)) :=
  Rd.convN ho hx hs hd (wrap64 (by omega) (by omega))

/-! bits of numbers that are not below 0 -/
theorem bv64 {n : Nat} (h : n < 18446744073709551616) : (BitVec.ofInt 64 (n : Int)).toNat = n := by
  simp only [BitVec.toNat_ofInt]; omega
theorem Rd.andN {m n : Nat} {t t' : TypeId} {u v : Operand} (ho : o.op = .binOp .and t u v t') (hu : L.ev u = some (.int .i64 (m : Int))) (hv : L.ev v = some (.int .i64 (n : Int))) (h : m ≤ 9223372036854775807 ∧ n ≤ 9223372036854775807) : Rd C o L H (.int .i64 ((m &&& n : Nat) : Int)) :=
  Rd.bits ho hu hv (.inl (by
    have h1 : (BitVec.ofInt IntKind.i64.bits (m : Int) &&& BitVec.ofInt IntKind.i64.bits (n : Int)).toNat = m &&& n := by
      show (BitVec.ofInt 64 _ &&& BitVec.ofInt 64 _).toNat = _
      rw [BitVec.toNat_and, bv64 (by omega), bv64 (by omega)]
    have h2 : m &&& n ≤ m := Nat.and_le_left
    rw [h1, wrap64 (by omega) (by omega)]))
theorem Rd.orN {m n : Nat} {t t' : TypeId} {u v : Operand} (ho : o.op = .binOp .or t u v t') (hu : L.ev u = some (.int .i64 (m : Int))) (hv : L.ev v = some (.int .i64 (n : Int))) (h : m ≤ 9223372036854775807 ∧ n ≤ 9223372036854775807) : Rd C o L H (.int .i64 ((m ||| n : Nat) : Int)) :=
  Rd.bits ho hu hv (.inr (.inl (by
    have h1 : (BitVec.ofInt IntKind.i64.bits (m : Int) ||| BitVec.ofInt IntKind.i64.bits (n : Int)).toNat = m ||| n := by
      show (BitVec.ofInt 64 _ ||| BitVec.ofInt 64 _).toNat = _
      rw [BitVec.toNat_or, bv64 (by omega), bv64 (by omega)]
    have h2 : m ||| n < 2 ^ 63 := Nat.or_lt_two_pow (by omega) (by omega)
    rw [h1, wrap64 (by omega) (by omega)])))
theorem Rd.xorN {m n : Nat} {t t' : TypeId} {u v : Operand} (ho : o.op = .binOp .xor t u v t') (hu : L.ev u = some (.int .i64 (m : Int))) (hv : L.ev v = some (.int .i64 (n : Int))) (h : m ≤ 9223372036854775807 ∧ n ≤ 9223372036854775807) : Rd C o L H (.int .i64 ((m ^^^ n : Nat) : Int)) :=
  Rd.bits ho hu hv (.inr (.inr (by
    have h1 : (BitVec.ofInt IntKind.i64.bits (m : Int) ^^^ BitVec.ofInt IntKind.i64.bits (n : Int)).toNat = m ^^^ n := by
      show (BitVec.ofInt 64 _ ^^^ BitVec.ofInt 64 _).toNat = _
      rw [BitVec.toNat_xor, bv64 (by omega), bv64 (by omega)]
    have h2 : m ^^^ n < 2 ^ 63 := Nat.xor_lt_two_pow (by omega) (by omega)
    rw [h1, wrap64 (by omega) (by omega)])))
theorem Rd.shrN {m n : Nat} {k k' : IntKind} {t t' : TypeId} {u v : Operand} (ho : o.op = .binOp .shr t u v t') (hu : L.ev u = some (.int k (m : Int))) (hv : L.ev v = some (.int k' (n : Int))) (h : n ≤ k.bits) : Rd C o L H (.int k ((m >>> n : Nat) : Int)) :=
  Rd.of (by rw [ho]; rfl) fun a w ha e => by
    have h1 := agr_of ha hu (by rw [ho]; simp [Op.operands])
    have h2 := agr_of ha hv (by rw [ho]; simp [Op.operands])
    have e2 : min n k.bits = n := by omega
    have e3 : ¬ ((n : Int) < 0) := by omega
    have e4 : ((m : Int)).fdiv (2 ^ n) = ((m >>> n : Nat) : Int) := by
      rw [Nat.shiftRight_eq_div_pow, Int.fdiv_eq_ediv_of_nonneg _ (Int.pow_nonneg (by decide))]
      simp
    simp only [execOp, ho, h1, h2, Sem.run_bind, Result.andThen]
    simp [eqGuard, binOp, Op.shift, Sem.run, e3, e2, e4]
theorem Rd.shlN {m n : Nat} {k' : IntKind} {t t' : TypeId} {u v : Operand} (ho : o.op = .binOp .shl t u v t') (hu : L.ev u = some (.int .i64 (m : Int))) (hv : L.ev v = some (.int k' (n : Int))) (h : n ≤ 64) (hm : m <<< n ≤ 9223372036854775807) : Rd C o L H (.int .i64 ((m <<< n : Nat) : Int)) :=
  Rd.of (by rw [ho]; rfl) fun a w ha e => by
    have h1 := agr_of ha hu (by rw [ho]; simp [Op.operands])
    have h2 := agr_of ha hv (by rw [ho]; simp [Op.operands])
    have e2 : min n IntKind.i64.bits = n := by simp [IntKind.bits]; omega
    have e3 : ¬ ((n : Int) < 0) := by omega
    have e4 : IntKind.i64.wrap ((m : Int) * 2 ^ n) = ((m <<< n : Nat) : Int) := by
      have : (m : Int) * 2 ^ n = ((m <<< n : Nat) : Int) := by rw [Nat.shiftLeft_eq]; simp
      rw [this]
      generalize m <<< n = q at hm
      exact wrap64 (by omega) (by omega)
    simp only [execOp, ho, h1, h2, Sem.run_bind, Result.andThen]
    simp [eqGuard, binOp, Op.shift, Sem.run, e3, e2, e4]
theorem Rd.rem8 {x y : UInt8} {t t' : TypeId} {u v : Operand} (ho : o.op = .binOp .rem t u v t') (hu : L.ev u = some (B8 x)) (hv : L.ev v = some (B8 y)) (h : y ≠ 0) : Rd C o L H (B8 (x % y)) :=
  Rd.of (by rw [ho]; rfl) fun a w ha e => by
    have h1 := agr_of ha hu (by rw [ho]; simp [Op.operands])
    have h2 := agr_of ha hv (by rw [ho]; simp [Op.operands])
    simp only [B8] at h1 h2
    have hy : ¬ (y.toNat : Int) = 0 := fun e => h (UInt8.toNat_inj.1 (by simpa using e))
    have hy' : ¬ y.toNat = 0 := fun e => hy (by rw [e]; rfl)
    simp only [execOp, ho, h1, h2, Sem.run_bind, Result.andThen]
    simp [eqGuard, binOp, Op.intDiv, Sem.run, hy', B8]
    exact Int.tmod_eq_emod_of_nonneg (by omega)
theorem Rd.remN {m n : Nat} {k : IntKind} {t t' : TypeId} {u v : Operand} (ho : o.op = .binOp .rem t u v t') (hu : L.ev u = some (.int k (m : Int))) (hv : L.ev v = some (.int k (n : Int))) (h : n ≠ 0) : Rd C o L H (.int k ((m % n : Nat) : Int)) :=
  Rd.of (by rw [ho]; rfl) fun a w ha e => by
    have h1 := agr_of ha hu (by rw [ho]; simp [Op.operands])
    have h2 := agr_of ha hv (by rw [ho]; simp [Op.operands])
    simp only [execOp, ho, h1, h2, Sem.run_bind, Result.andThen]
    simp [eqGuard, binOp, Op.intDiv, Sem.run, h]
    exact Int.tmod_eq_emod_of_nonneg (by omega)
theorem Rd.quoN {m n : Nat} {t t' : TypeId} {u v : Operand} (ho : o.op = .binOp .quo t u v t') (hu : L.ev u = some (.int .i64 (m : Int))) (hv : L.ev v = some (.int .i64 (n : Int))) (h : n ≠ 0) (hm : m ≤ 9223372036854775807) : Rd C o L H (.int .i64 ((m / n : Nat) : Int)) :=
  Rd.of (by rw [ho]; rfl) fun a w ha e => by
    have h1 := agr_of ha hu (by rw [ho]; simp [Op.operands])
    have h2 := agr_of ha hv (by rw [ho]; simp [Op.operands])
    have h5 : m / n ≤ m := Nat.div_le_self _ _
    have e4 : IntKind.i64.wrap ((m : Int).tdiv (n : Int)) = ((m / n : Nat) : Int) := by
      have : (m : Int).tdiv (n : Int) = ((m / n : Nat) : Int) := rfl
      rw [this]
      generalize m / n = q at h5
      exact wrap64 (by omega) (by omega)
    simp only [execOp, ho, h1, h2, Sem.run_bind, Result.andThen]
    rw [Int.natCast_ediv] at e4
    have e5 : (m : Int).tdiv (n : Int) = (m : Int) / n := Int.tdiv_eq_ediv_of_nonneg (by omega)
    rw [e5] at e4
    simp [eqGuard, binOp, Op.intDiv, Sem.run, h, e4, e5]
theorem Rd.mulN {m n : Nat} {t t' : TypeId} {u v : Operand} (ho : o.op = .binOp .mul t u v t') (hu : L.ev u = some (.int .i64 (m : Int))) (hv : L.ev v = some (.int .i64 (n : Int)))
    (h : m * n ≤ 9223372036854775807) : Rd C o L H (.int .i64 ((m * n : Nat) : Int)) :=
  Rd.arith ho hu hv (.inr (.inr (by rw [← Int.natCast_mul, wrap64 (by omega) (by omega)])))
theorem Rd.maxN {m n : Nat} {k : IntKind} {x y : Operand} {ts : Array TypeId} (ho : o.op = .call { callee := .builtin .max, args := #[x, y], argTypes := ts }) (hx : L.ev x = some (.int k (m : Int))) (hy : L.ev y = some (.int k (n : Int))) : Rd C o L H (.int k ((max m n : Nat) : Int)) :=
  Rd.of (by rw [ho]; rfl) fun act w ha ex => by
    have h1 := agr_of ha hx (by rw [ho]; simp [Op.operands, Call.operands])
    have h2 := agr_of ha hy (by rw [ho]; simp [Op.operands, Call.operands])
    have e : (if (n : Int) > (m : Int) then (n : Int) else m) = ((max m n : Nat) : Int) := by split <;> omega
    simp [execOp, ho, resolve, invoke, builtin, h1, h2, Builtin.max_, Builtin.max2, Sem.run_bind, Result.andThen, Sem.run]
    omega
theorem Rd.minN {m n : Nat} {k : IntKind} {x y : Operand} {ts : Array TypeId} (ho : o.op = .call { callee := .builtin .min, args := #[x, y], argTypes := ts }) (hx : L.ev x = some (.int k (m : Int))) (hy : L.ev y = some (.int k (n : Int))) : Rd C o L H (.int k ((min m n : Nat) : Int)) :=
  Rd.of (by rw [ho]; rfl) fun act w ha ex => by
    have h1 := agr_of ha hx (by rw [ho]; simp [Op.operands, Call.operands])
    have h2 := agr_of ha hy (by rw [ho]; simp [Op.operands, Call.operands])
    simp [execOp, ho, resolve, invoke, builtin, h1, h2, Builtin.min_, Builtin.min2, Sem.run_bind, Result.andThen, Sem.run]
    omega

/-! addresses, loads -/
theorem Rd.fieldAddr [Tbl C.P] {x : Operand} {t k : Nat} {a : Addr} {sz bt sz' bt' : Nat} {z z' : Value} {fs : Array Field} {fn fg fp : String} {ft off fb : Nat} {fe : Bool} {d : TypeDesc} (ho : o.op = .fieldAddr t x k) (hx : L.ev x = some (.pointer (some a)))
    (ht : ty C.P t = some ⟨.struct fs, sz, bt, z⟩) (hf : fs[k]? = some ⟨fn, ft, off, fe, fg, fp, fb⟩) (hj : ty C.P ft = some ⟨d, sz', bt', z'⟩) (hj0 : Nat.beq sz' 0 = false) : Rd C o L H (.pointer (some (a.add off))) :=
  Rd.of (by rw [ho]; rfl) fun act w ha e => by
    have h1 := agr_of ha hx (by rw [ho]; simp [Op.operands])
    have hne : ¬ sz' = 0 := Nat.ne_of_beq_eq_false hj0
    simp [execOp, ho, h1, Instr.fieldAt, Sem.run_bind, ty.und ht, Result.andThen, hf, Instr.sureAddr, fieldPlace, ty.sizeOf hj, hne, Sem.run]
theorem Rd.fieldAddrB [Tbl C.P] {x : Operand} {t k b n : Nat} {sz bt sz' bt' : Nat} {z z' : Value} {fs : Array Field} {fn fg fp : String} {ft off fb : Nat} {fe : Bool} {d : TypeDesc} (ho : o.op = .fieldAddr t x k) (hx : L.ev x = some (.pointer (some ⟨b, n, none⟩)))
    (ht : ty C.P t = some ⟨.struct fs, sz, bt, z⟩) (hf : fs[k]? = some ⟨fn, ft, off, fe, fg, fp, fb⟩) (hj : ty C.P ft = some ⟨d, sz', bt', z'⟩) (hj0 : Nat.beq sz' 0 = false) : Rd C o L H (.pointer (some ⟨b, n + off, none⟩)) := by
  have := Rd.fieldAddr (C := C) (H := H) ho hx ht hf hj hj0
  rwa [add_plain] at this
theorem Rd.fieldAddrS [Tbl C.P] {x : Operand} {t k n : Nat} {s : Sl} {sz bt sz' bt' : Nat} {z z' : Value} {fs : Array Field} {fn fg fp : String} {ft off fb : Nat} {fe : Bool} {d : TypeDesc} (ho : o.op = .fieldAddr t x k) (hx : L.ev x = some (.pointer (some (s.cell n))))
    (ht : ty C.P t = some ⟨.struct fs, sz, bt, z⟩) (hf : fs[k]? = some ⟨fn, ft, off, fe, fg, fp, fb⟩) (hj : ty C.P ft = some ⟨d, sz', bt', z'⟩) (hj0 : Nat.beq sz' 0 = false) : Rd C o L H (.pointer (some (s.cell (n + off)))) := by
  have := Rd.fieldAddr (C := C) (H := H) ho hx ht hf hj hj0
  rwa [Sl.cell_add] at this
theorem Rd.indexAddr [Tbl C.P] {x y : Operand} {t e : Nat} {s : Sl} {n : Nat} {sz bt sz' bt' : Nat} {z z' : Value} {d : TypeDesc} (ho : o.op = .indexAddr t x y) (hx : L.ev x = some s.val) (hy : L.ev y = some (.int .i64 (n : Int)))
    (ht : ty C.P t = some ⟨.slice e, sz, bt, z⟩) (hj : ty C.P e = some ⟨d, sz', bt', z'⟩) (hn : n < s.len) : Rd C o L H (.pointer (some (s.cell (n * sz')))) :=
  Rd.of (by rw [ho]; rfl) fun act w ha ex => by
    have h1 := agr_of ha hx (by rw [ho]; simp [Op.operands])
    have h2 := agr_of ha hy (by rw [ho]; simp [Op.operands])
    obtain ⟨ad, had⟩ : ∃ ad, s.ao = some ad := by
      cases h : s.ao with
      | none => have := (s.ok h).1; omega
      | some ad => exact ⟨ad, rfl⟩
    simp only [Sl.val] at h1
    have h3 : (0 : Int) ≤ n := by omega
    have h4 : (n : Int) < (s.len : Int) := by omega
    simp only [execOp, ho, h1, h2, Instr.indexAt, Sem.run_bind, asIntOf, Sem.run_pure, ty.und ht, Result.andThen, had, h3, h4, and_self, if_true]
    simp [ty.sizeOf hj, Sem.run, Sl.cell_eq, had]
theorem Rd.index1 [Tbl C.P] {x y : Operand} {t e : Nat} {s : Sl} {n : Nat} {sz bt bt' : Nat} {z z' : Value} {d : TypeDesc} (ho : o.op = .indexAddr t x y) (hx : L.ev x = some s.val) (hy : L.ev y = some (.int .i64 (n : Int)))
    (ht : ty C.P t = some ⟨.slice e, sz, bt, z⟩) (hj : ty C.P e = some ⟨d, 1, bt', z'⟩) (hn : n < s.len) : Rd C o L H (.pointer (some (s.cell n))) := by
  have := Rd.indexAddr (C := C) (H := H) ho hx hy ht hj hn
  rwa [Nat.mul_one] at this
theorem Rd.indexAddrA [Tbl C.P] {x y : Operand} {t e m b off : Nat} {n : Nat} {k : IntKind} {sz bt sz' bt' : Nat} {z z' : Value} {d : TypeDesc} (ho : o.op = .indexAddr t x y) (hx : L.ev x = some (.pointer (some ⟨b, off, none⟩))) (hy : L.ev y = some (.int k (n : Int)))
    (ht : ty C.P t = some ⟨.array m e, sz, bt, z⟩) (hj : ty C.P e = some ⟨d, sz', bt', z'⟩) (hn : n < m) : Rd C o L H (.pointer (some ⟨b, off + n * sz', none⟩)) :=
  Rd.of (by rw [ho]; rfl) fun act w ha ex => by
    have h1 := agr_of ha hx (by rw [ho]; simp [Op.operands])
    have h2 := agr_of ha hy (by rw [ho]; simp [Op.operands])
    have h3 : (0 : Int) ≤ n ∧ (n : Int) < m := by omega
    simp only [execOp, ho, h1, h2, Instr.indexAt, Instr.sureAddr, Sem.run_bind, asIntOf, Sem.run_pure, ty.und ht, Result.andThen, h3, and_self, if_true]
    simp [ty.sizeOf hj, Sem.run, add_plain]
theorem Rd.indexA1 [Tbl C.P] {x y : Operand} {t e m b off : Nat} {n : Nat} {k : IntKind} {sz bt bt' : Nat} {z z' : Value} {d : TypeDesc} (ho : o.op = .indexAddr t x y) (hx : L.ev x = some (.pointer (some ⟨b, off, none⟩))) (hy : L.ev y = some (.int k (n : Int)))
    (ht : ty C.P t = some ⟨.array m e, sz, bt, z⟩) (hj : ty C.P e = some ⟨d, 1, bt', z'⟩) (hn : n < m) : Rd C o L H (.pointer (some ⟨b, off + n, none⟩)) := by
  have := Rd.indexAddrA (C := C) (H := H) ho hx hy ht hj hn
  rwa [Nat.mul_one] at this
theorem Rd.load [Tbl C.P] {x : Operand} {t : Nat} {a : Addr} {i : TI} {v : Value} (ho : o.op = .load t x) (hx : L.ev x = some (.pointer (some a)))
    (ht : ty C.P t = some i) (hi : isAggD i.desc = false) (hc : hcell H a = some v) : Rd C o L H v :=
  Rd.of (by rw [ho]; rfl) fun act w ha ex => by
    have h1 := agr_of ha hx (by rw [ho]; simp [Op.operands])
    have h2 : w.cell? a = some v := ex.cell hc
    simp [execOp, ho, h1, Instr.loadAt, Instr.sureAddr, loadVar, Sem.run_bind, ty.agg ht, Result.andThen, hi, Go.load, Sem.run, h2]

/-! slices -/
theorem Rd.len [Tbl C.P] {x : Operand} {t : Nat} {s : Sl} {i : TI} {e : Nat} (ho : o.op = .call { callee := .builtin .len, args := #[x], argTypes := #[t] }) (hx : L.ev x = some s.val)
    (ht : ty C.P t = some i) (hi : i.desc = .slice e) : Rd C o L H (.int .i64 (s.len : Int)) :=
  Rd.of (by rw [ho]; rfl) fun act w ha ex => by
    have h1 := agr_of ha hx (by rw [ho]; simp [Op.operands, Call.operands])
    simp only [Sl.val] at h1
    simp [execOp, ho, resolve, invoke, builtin, h1, Builtin.len_, Sem.run_bind, ty.und ht, Result.andThen, hi, goInt, Sem.run]
theorem Rd.eqlNil [Tbl C.P] {x y : Operand} {t t' : TypeId} {e sz bt : Nat} {z : Value} {s : Sl} (ho : o.op = .binOp .eql t x y t') (hx : L.ev x = some s.val) (hy : L.ev y = some (.slice none 0 0)) (ht : ty C.P t = some ⟨.slice e, sz, bt, z⟩) : Rd C o L H (.bool (s.ao.isNone)) :=
  Rd.of (by rw [ho]; rfl) fun act w ha ex => by
    have h1 := agr_of ha hx (by rw [ho]; simp [Op.operands])
    have h2 := agr_of ha hy (by rw [ho]; simp [Op.operands])
    simp only [Sl.val] at h1
    have e := run_equal_slice_nil (P := C.P) w t e s.ao s.len s.cap (Tbl.ok.find ht).1
    have e2 : (binOp .eql t (.slice s.ao s.len s.cap) (.slice none 0 0)).run C.P w = .ok (.bool s.ao.isNone) w := by
      simp only [binOp, Sem.run_bind, e, Result.andThen, Sem.run_pure]
    simp only [execOp, ho, h1, h2, eqGuard, Sem.run_bind, Result.andThen, e2, Bool.not_true, Bool.false_eq_true, if_false, Sem.run_pure]
/-- A string of bytes. -/
def S (l : List UInt8) : Value := .string ⟨l.toArray⟩
theorem bytes_loop (b : ByteArray) : ∀ (n i : Nat) (r : List UInt8), b.size - i = n → ByteArray.toList.loop b i r = r.reverse ++ b.data.toList.drop i
  | 0, i, r, h => by
    have hs : b.size = b.data.size := rfl
    rw [ByteArray.toList.loop, if_neg (by omega), List.drop_of_length_le (by simp; omega)]
    simp
  | n + 1, i, r, h => by
    have hs : b.size = b.data.size := rfl
    have hi : i < b.data.size := by omega
    rw [ByteArray.toList.loop, if_pos (by omega), bytes_loop b n (i + 1) _ (by omega)]
    have hd : b.data.toList.drop i = b.data[i] :: b.data.toList.drop (i + 1) := by
      rw [List.drop_eq_getElem_cons (by simpa using hi)]; simp
    rw [hd]
    have hg : b.get! i = b.data[i] := by
      show b.data[i]! = _
      exact getElem!_pos b.data i hi
    simp [hg]
theorem bytes_toList (l : List UInt8) : (ByteArray.mk l.toArray).toList = l := by
  unfold ByteArray.toList
  rw [bytes_loop _ _ 0 [] rfl]
  simp
theorem Rd.eqlS {x y : Operand} {t t' : TypeId} {a b : List UInt8} (ho : o.op = .binOp .eql t x y t') (hx : L.ev x = some (S a)) (hy : L.ev y = some (S b)) : Rd C o L H (.bool (dec (a = b))) :=
  Rd.of (by rw [ho]; rfl) fun act w ha ex => by
    have h1 := agr_of ha hx (by rw [ho]; simp [Op.operands])
    have h2 := agr_of ha hy (by rw [ho]; simp [Op.operands])
    simp only [S] at h1 h2
    have e : (a == b) = dec (a = b) := by by_cases h : a = b <;> simp [h, dec_pos, dec_neg]
    simp only [execOp, ho, h1, h2, Sem.run_bind, Result.andThen]
    simp only [eqGuard, binOp, Op.stringOp, Sem.run_bind, Result.andThen, Sem.run, bytes_toList, e]
    rfl
theorem Rd.eqlBool [Tbl C.P] {x y : Operand} {t t' : TypeId} {sz bt : Nat} {z : Value} {a b : Bool} (ho : o.op = .binOp .eql t x y t') (hx : L.ev x = some (.bool a)) (hy : L.ev y = some (.bool b)) (ht : ty C.P t = some ⟨.bool, sz, bt, z⟩) : Rd C o L H (.bool (dec (a = b))) :=
  Rd.of (by rw [ho]; rfl) fun act w ha ex => by
    have h1 := agr_of ha hx (by rw [ho]; simp [Op.operands])
    have h2 := agr_of ha hy (by rw [ho]; simp [Op.operands])
    have e := run_equal_bool (P := C.P) w t a b (Tbl.ok.find ht).1
    have e2 : (binOp .eql t (.bool a) (.bool b)).run C.P w = .ok (.bool (dec (a = b))) w := by
      simp only [binOp, Sem.run_bind, e, Result.andThen, Sem.run_pure]
      cases a <;> cases b <;> simp [dec_pos, dec_neg]
    simp only [execOp, ho, h1, h2, eqGuard, Sem.run_bind, Result.andThen, e2, Bool.not_true, Bool.false_eq_true, if_false, Sem.run_pure]
theorem Rd.neqBool [Tbl C.P] {x y : Operand} {t t' : TypeId} {sz bt : Nat} {z : Value} {a b : Bool} (ho : o.op = .binOp .neq t x y t') (hx : L.ev x = some (.bool a)) (hy : L.ev y = some (.bool b)) (ht : ty C.P t = some ⟨.bool, sz, bt, z⟩) : Rd C o L H (.bool (dec (a ≠ b))) :=
  Rd.of (by rw [ho]; rfl) fun act w ha ex => by
    have h1 := agr_of ha hx (by rw [ho]; simp [Op.operands])
    have h2 := agr_of ha hy (by rw [ho]; simp [Op.operands])
    have e := run_equal_bool (P := C.P) w t a b (Tbl.ok.find ht).1
    have e2 : (binOp .neq t (.bool a) (.bool b)).run C.P w = .ok (.bool (dec (a ≠ b))) w := by
      simp only [binOp, Sem.run_bind, e, Result.andThen, Sem.run_pure]
      cases a <;> cases b <;> simp [dec_pos, dec_neg]
    simp only [execOp, ho, h1, h2, eqGuard, Sem.run_bind, Result.andThen, e2, Bool.not_true, Bool.false_eq_true, if_false, Sem.run_pure]
def tget : List Value → Nat → Option Value
  | [], _ => none
  | v :: _, 0 => some v
  | _ :: r, n + 1 => tget r n
theorem tget_eq : ∀ (l : List Value) (n : Nat), tget l n = l[n]?
  | [], _ => rfl
  | _ :: _, 0 => rfl
  | _ :: r, n + 1 => by rw [tget, tget_eq r n]; rfl
theorem Rd.extract {x : Operand} {k : Nat} {vs : List Value} {v : Value} (ho : o.op = .extract x k) (hx : L.ev x = some (.tuple vs.toArray)) (hv : tget vs k = some v) : Rd C o L H v :=
  Rd.of (by rw [ho]; rfl) fun act w ha ex => by
    have h1 := agr_of ha hx (by rw [ho]; simp [Op.operands])
    rw [tget_eq] at hv
    simp [execOp, ho, h1, Instr.extract, hv, Sem.run]
theorem Rd.makeFunc {fn : Fn} {xs ys : List Operand} {vs us : List Value} (ho : o.op = .makeFunc fn xs.toArray ys.toArray) (hx : evs L xs = some vs) (hy : evs L ys = some us) : Rd C o L H (.func fn vs.toArray us.toArray) :=
  Rd.of (by rw [ho]; rfl) fun act w ha ex => by
    have h1 : xs.map act.eval = vs := evs_map hx fun x hx u hu => ha x (by rw [ho]; simp [Op.operands, hx]) u hu
    have h2 : ys.map act.eval = us := evs_map hy fun x hx u hu => ha x (by rw [ho]; simp [Op.operands, hx]) u hu
    simp [execOp, ho, Instr.makeFunc, Sem.run, h1, h2]
/-- A type's nought, built; the kernel counts. -/
theorem Rd.buildZ [Tbl C.P] {t : Nat} {i : TI} (ho : o.op = .build t #[]) (ht : ty C.P t = some i) (h : ∀ w, (Instr.build t #[]).run C.P w = .ok i.zero w) : Rd C o L H i.zero :=
  Rd.of (by rw [ho]; rfl) fun act w ha ex => by
    simp [execOp, ho, Sem.run_bind, h, Result.andThen, Sem.run]
end
end Go.Vc
