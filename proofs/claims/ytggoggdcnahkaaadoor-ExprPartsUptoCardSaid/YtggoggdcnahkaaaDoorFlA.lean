/- What the words of the program's names are, row by row. -/
import Derived.Test.YtggoggdcnahkaaaDoorOrc
set_option maxRecDepth 100000
namespace Go.Proofs.YtggoggdcnahkaaaDoor
theorem fld7 (m : Int) : (rowNames[7]?).map (okF m) = some true := by kernel_rfl
theorem fld12 (m : Int) : (rowNames[12]?).map (okF m) = some true := by kernel_rfl
theorem fld13 (m : Int) : (rowNames[13]?).map (okF m) = some true := by kernel_rfl
theorem fld9 (m : Int) : (rowNames[9]?).map (okF m) = some true := by kernel_rfl
theorem fld5 (m : Int) : (rowNames[5]?).map (okF m) = some true := by kernel_rfl
theorem fld0 (m : Int) : (rowNames[0]?).map (okF m) = some true := by kernel_rfl
theorem fld1 (m : Int) : (rowNames[1]?).map (okF m) = some true := by kernel_rfl
theorem fld2 (m : Int) : (rowNames[2]?).map (okF m) = some true := by kernel_rfl
theorem fld3 (m : Int) : (rowNames[3]?).map (okF m) = some true := by kernel_rfl
theorem fld4 (m : Int) : (rowNames[4]?).map (okF m) = some true := by kernel_rfl
theorem fld6 (m : Int) : (rowNames[6]?).map (okF m) = some true := by kernel_rfl
theorem fld8 (m : Int) : (rowNames[8]?).map (okF m) = some true := by kernel_rfl
theorem fld10 (m : Int) : (rowNames[10]?).map (okF m) = some true := by kernel_rfl
theorem fld11 (m : Int) : (rowNames[11]?).map (okF m) = some true := by kernel_rfl
theorem fld16 (m : Int) : (rowNames[16]?).map (okF m) = some true := by kernel_rfl
theorem fld17 (m : Int) : (rowNames[17]?).map (okF m) = some true := by kernel_rfl
theorem rn_len : rowNames.length = 18 := by kernel_rfl
end Go.Proofs.YtggoggdcnahkaaaDoor
