/- AllocCheckExamples: the pure function answers true. -/
import Derived.Test.YtocfnpnnbmicmaaDoorXAc4
set_option maxRecDepth 100000
namespace Go.Proofs.YtocfnpnnbmicmaaDoor.Tc
open Go
theorem pure18 : ∃ K, law35_AllocCheckExamples K = some true := ⟨100, by kernel_rfl⟩
end Go.Proofs.YtocfnpnnbmicmaaDoor.Tc
