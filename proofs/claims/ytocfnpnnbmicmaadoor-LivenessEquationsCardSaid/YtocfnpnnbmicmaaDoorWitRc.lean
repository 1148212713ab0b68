/- A world that holds the table, for the rows' witness. -/
import Derived.Test.YtocfnpnnbmicmaaDoorClosed
import Derived.Test.YtocfnpnnbmicmaaDoorEntry
import Derived.Test.YtocfnpnnbmicmaaDoorCards
import Derived.Test.YtocfnpnnbmicmaaDoorTie
import Derived.ProofKit
import Derived.LaidMore
import Derived.Deep.DeepHandedRow
set_option maxRecDepth 100000
namespace Go.Proofs.YtocfnpnnbmicmaaDoor.Tc
open Go Go.ChangeShapes Go.WideShapes Go.ChangeAt Go.RowKit

theorem ownK : ownKnob Tryd.prog.godebug = none := by kernel_rfl
/-- A world that holds the table. -/
def tabCell (n : Nat) : Obj → Obj
  | .cells _ t frozen => .cells #[.slice (some ⟨n, 0, none⟩) 37 37] t frozen
  | o => o
noncomputable def baseWorld (os : Os) : World := World.holding Tryd.prog os ⟨#[], #[], []⟩
noncomputable def tabWorld (os : Os) : World :=
  { baseWorld os with heap := ((baseWorld os).heap.modify 0 (tabCell (baseWorld os).heap.size)).push (.cells (tableL.map opCells).flatten.toArray 113 (0, 0)) }
theorem tab_met (os : Os) (args : Array Value) : laidMet Tryd.prog [("fulling/machine.table", Rows.laid_fulling_machine_table)] ((tabWorld os).forCall (fun _ _ => 0) ⟨#[], args, []⟩).memory :=
  laidMet_of_run' 8 (by kernel_rfl) (by kernel_rfl)
end Go.Proofs.YtocfnpnnbmicmaaDoor.Tc
