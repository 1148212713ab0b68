import Derived.Test.YtocfnpnnbmicmaaDoorXLe2
set_option maxRecDepth 100000
namespace Go.Proofs.YtocfnpnnbmicmaaDoor.Tc
open Go
theorem ex33 : law33_LivenessExamples 100 = some true := by kernel_rfl
end Go.Proofs.YtocfnpnnbmicmaaDoor.Tc
