/-
  Whole numbers as values.
-/
import Derived.Test.YtaikdcnifijcoaaVcRun
set_option linter.unusedVariables false
set_option linter.unusedSimpArgs false
namespace Go.Proofs.Ytaikdcnifijcoaa
open Go
abbrev IV (n : Int) : Value := .int .i64 n
end Go.Proofs.Ytaikdcnifijcoaa
