/- The loops of a code, one after the other: a loop as a theorem of its own. -/
import Derived.Test.YtkjkpmeommfdgaaBase
set_option linter.unusedSimpArgs false
set_option linter.unusedVariables false
namespace Go.Proofs.Ytkjkpmeommfdgaa
def allLoops : Code → List Code
  | .loop c => c :: allLoops c
  | .seq a b => allLoops a ++ allLoops b
  | .block _ c => allLoops c
  | .scope c => allLoops c
  | .cond _ a b => allLoops a ++ allLoops b
  | _ => []
end Go.Proofs.Ytkjkpmeommfdgaa
