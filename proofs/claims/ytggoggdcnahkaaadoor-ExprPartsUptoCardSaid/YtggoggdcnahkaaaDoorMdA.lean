/- The program's operations as they are made: each is answered, whatever the machine's limit. -/
import Derived.Test.YtggoggdcnahkaaaDoorMade
set_option maxRecDepth 100000
namespace Go.Proofs.YtggoggdcnahkaaaDoor
theorem mdA (m : Int) : (bareL.take 34).all (okM m) = true := by kernel_rfl
theorem mdB (m : Int) : ((bareL.drop 34).take 34).all (okM m) = true := by kernel_rfl
theorem mdC (m : Int) : (bareL.drop 68).all (okM m) = true := by kernel_rfl
end Go.Proofs.YtggoggdcnahkaaaDoor
