/- RegAllocExamples answers true with any fuel that is enough. -/
import Derived.Test.YtocfnpnnbmicmaaDoorP9Re
set_option maxRecDepth 100000
namespace Go.Proofs.YtocfnpnnbmicmaaDoor.Tc
open Go
theorem exm11 (K : Nat) : law34_RegAllocExamples (K + 100) = some true := by kernel_rfl
theorem ev_ex11 : Ev (fun K _ => law34_RegAllocExamples K) true := ⟨100, fun K k hK hk => by
  obtain ⟨j, rfl⟩ : ∃ j, K = j + 100 := ⟨K - 100, by omega⟩
  exact exm11 j⟩
end Go.Proofs.YtocfnpnnbmicmaaDoor.Tc
