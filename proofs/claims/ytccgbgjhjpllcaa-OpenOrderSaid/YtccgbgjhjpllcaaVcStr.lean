/-
  Unlike texts.
-/
import Derived.Test.YtccgbgjhjpllcaaVcGrow
set_option linter.unusedVariables false
set_option linter.unusedSimpArgs false
namespace Go.Vc
theorem Rd.neqS {C : Cx} {o : Oper} {L : Env} {H : Heap} {x y : Operand} {t t' : TypeId} {a b : List UInt8} (ho : o.op = .binOp .neq t x y t') (hx : L.ev x = some (S a)) (hy : L.ev y = some (S b)) : Rd C o L H (.bool (dec (a ≠ b))) :=
  Rd.of (by rw [ho]; rfl) fun act w ha ex => by
    have h1 := agr_of ha hx (by rw [ho]; simp [Op.operands])
    have h2 := agr_of ha hy (by rw [ho]; simp [Op.operands])
    simp only [S] at h1 h2
    have e : (!(a == b)) = dec (a ≠ b) := by by_cases h : a = b <;> simp [h, dec_pos, dec_neg]
    simp only [execOp, ho, h1, h2, Sem.run_bind, Result.andThen]
    simp only [eqGuard, binOp, Op.stringOp, Sem.run_bind, Result.andThen, Sem.run, bytes_toList, e]
    rfl
end Go.Vc
