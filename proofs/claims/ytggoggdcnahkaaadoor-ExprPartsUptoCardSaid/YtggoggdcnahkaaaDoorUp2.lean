/- Part of a proof over an evaluator of the loaded code: texts printed by a program of ours. -/
import Derived.Test.YtggoggdcnahkaaaDoorLook2
set_option maxRecDepth 100000
namespace Go.Proofs.YtggoggdcnahkaaaDoor
open Go Go.RowKit Go.Proofs
theorem up_ev (m : Int) : evF P (T m) 200 4 [] [] = some (.s (.bool true), []) := by kernel_rfl
end Go.Proofs.YtggoggdcnahkaaaDoor
