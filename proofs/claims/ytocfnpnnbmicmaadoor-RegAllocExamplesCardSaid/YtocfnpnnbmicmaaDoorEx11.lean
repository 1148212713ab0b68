/- RegAllocExamples: the pure function answers true. -/
import Derived.Test.YtocfnpnnbmicmaaDoorXRa4
set_option maxRecDepth 100000
namespace Go.Proofs.YtocfnpnnbmicmaaDoor.Tc
open Go
theorem pure11 : ∃ K, law34_RegAllocExamples K = some true := ⟨100, by kernel_rfl⟩
end Go.Proofs.YtocfnpnnbmicmaaDoor.Tc
