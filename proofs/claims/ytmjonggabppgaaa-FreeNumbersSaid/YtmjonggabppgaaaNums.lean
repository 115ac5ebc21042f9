/- The statement FreeNumbers holds: the run of its code, at its numbers. -/
import Derived.Test.YtmjonggabppgaaaSum
import Derived.Test.YtmjonggabppgaaaGlue
set_option linter.unusedVariables false
namespace Go.Proofs.Ytmjonggabppgaaa
open Go.Eng
def zInv : Inv := ⟨[.int], [(95, .one (.int .i64 (di 0)))], [], [eLe (.int 0) (di 0), eLe (di 0) (.int 140737488355328)], .f2 41 (.int 140737488355328) (di 0)⟩
def numCx : Cx := { specs := [(43, [sumCtr])], anns := [(21, [(19, .inv zInv)])], exts := [(88, [ovCtr (.rows [.int .i64, .int .i64])])] }
theorem num_chk : VC.chk [] [] (vcOf Try.prog numCx 1200 3 Go.Eng.yes) = true := by kernel_rfl
end Go.Proofs.Ytmjonggabppgaaa
