/- What the words of the program's names are: the two longest rows. -/
import Derived.Test.YtggoggdcnahkaaaDoorOrc
set_option maxRecDepth 100000
namespace Go.Proofs.YtggoggdcnahkaaaDoor
theorem fld14 (m : Int) : (rowNames[14]?).map (okF m) = some true := by kernel_rfl
theorem fld15 (m : Int) : (rowNames[15]?).map (okF m) = some true := by kernel_rfl
end Go.Proofs.YtggoggdcnahkaaaDoor
